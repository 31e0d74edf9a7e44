import Derived.Test.YtddhlmejaobcgaaDoorVV
import Derived.Test.YtddhlmejaobcgaaDoorAm23
set_option maxRecDepth 100000
set_option linter.unusedVariables false
set_option linter.unusedSimpArgs false
/- The parser of filters: blanks, words, marks. -/
namespace Go.Proofs.YtddhlmejaobcgaaDoor.Va
open Go Go.Am
def od30 : Ords := [(0, [0, 1, 2, 3, 4, 5, 6, 7, 8, 9, 10, 11, 12, 13, 14, 15, 16, 17, 18, 19, 20, 21, 22, 23, 24, 25, 26, 27, 28])]
theorem code30 : codeB Tryd.f30.ntmps od30 (match Tryd.f30.body with | some c => c | none => .skip) = true := by kernel_rfl
def od32 : Ords := []
theorem code32 : codeB Tryd.f32.ntmps od32 (match Tryd.f32.body with | some c => c | none => .skip) = true := by kernel_rfl
def od50 : Ords := []
theorem code50 : codeB Tryd.f50.ntmps od50 (match Tryd.f50.body with | some c => c | none => .skip) = true := by kernel_rfl
def od51 : Ords := []
theorem code51 : codeB Tryd.f51.ntmps od51 (match Tryd.f51.body with | some c => c | none => .skip) = true := by kernel_rfl
def od31 : Ords := [(3, [0, 1, 2, 3, 4, 5, 6, 7, 8, 9, 10, 11, 12, 13, 14, 15, 16, 17, 18, 19, 20, 21, 22, 23, 24, 25, 26, 1027, 28, 29, 30, 31, 32, 33, 34, 35, 36, 37, 38, 39, 40, 41, 42, 43, 44, 1045, 46, 47, 48]), (7, [0, 1, 2, 3, 4, 5, 6, 7, 8, 9, 10])]
theorem code31 : codeB Tryd.f31.ntmps od31 (match Tryd.f31.body with | some c => c | none => .skip) = true := by kernel_rfl
def od47 : Ords := [(1, [0, 1, 2, 3, 4, 5, 6, 7, 8, 9, 10, 11, 12, 13, 14, 15, 16, 17, 18, 19, 20, 21, 22, 23, 24, 25, 26, 27, 28, 29, 30, 31, 32, 33, 34, 35, 36, 37, 38, 39])]
theorem code47 : codeB Tryd.f47.ntmps od47 (match Tryd.f47.body with | some c => c | none => .skip) = true := by kernel_rfl
abbrev pS (s : ByteArray) (a b : Int) : Store := [.var [.d (sD s), .d (nI a), .d (nI b)]]
theorem pk1 : ∀ i, i < 1 → [0][i]? = some i := by
  intro j hj; obtain rfl : j = 0 := (by omega); rfl
/-- What lies ahead of a place. -/
structure At (s : ByteArray) (a : Nat) (r : List UInt8) : Prop where
  le : a ≤ s.size
  eq : s.data.toList.drop a = r
theorem At.nil {s : ByteArray} {a : Nat} (h : At s a []) : a = s.size := by
  have h1 := h.le
  have h2 : (s.data.toList.drop a).length = 0 := by rw [h.eq]; rfl
  rw [List.length_drop, Array.length_toList] at h2
  have : s.size = s.data.size := rfl
  omega
theorem At.cons {s : ByteArray} {a : Nat} {c : UInt8} {r : List UInt8} (h : At s a (c :: r)) : a < s.size ∧ s.data.getD a 0 = c ∧ At s (a + 1) r := by
  have h2 : (s.data.toList.drop a).length = r.length + 1 := by rw [h.eq]; rfl
  rw [List.length_drop, Array.length_toList] at h2
  have e : s.size = s.data.size := rfl
  have hlt : a < s.data.size := by omega
  have h3 := List.drop_eq_getElem_cons (l := s.data.toList) (i := a) (by rw [Array.length_toList]; exact hlt)
  rw [h.eq] at h3
  injection h3 with h4 h5
  refine ⟨by omega, ?_, ⟨by omega, h5.symm⟩⟩
  rw [Array.getD_eq_getD_getElem?, Array.getElem?_eq_getElem hlt, h4]
  simp
theorem At.app {s : ByteArray} : ∀ (w : List UInt8) {a : Nat} {r : List UInt8}, At s a (w ++ r) → At s (a + w.length) r
  | [], a, r, h => h
  | c :: w, a, r, h => by
    have := At.app w (h.cons).2.2
    rwa [show a + 1 + w.length = a + (c :: w).length by simp only [List.length_cons]; omega] at this
theorem At.ext {s : ByteArray} {a : Nat} {w r : List UInt8} (h : At s a (w ++ r)) : s.extract a (a + w.length) = ⟨w.toArray⟩ := by
  have h1 := (At.app w h).le
  have e : s.size = s.data.size := rfl
  have : (s.extract a (a + w.length)).data = w.toArray := by
    apply Array.toList_inj.1
    rw [ByteArray.data_extract, Array.toList_extract, List.extract_eq_take_drop, h.eq]
    rw [Nat.add_sub_cancel_left, List.take_left' rfl]
  exact ByteArray.ext this
theorem At.all (l : List UInt8) : At ⟨l.toArray⟩ 0 l := ⟨Nat.zero_le _, by simp⟩
theorem u8int (c : UInt8) (n : Nat) (hn : n < 256) : (((c.toNat : Int)) == (n : Int)) = (c == UInt8.ofNat n) := by
  by_cases h : c = UInt8.ofNat n
  · have : c.toNat = n := by rw [h]; simp; omega
    rw [this, h]; simp
  · have h2 : ¬ c.toNat = n := fun e => h (by rw [← e]; simp)
    have a1 : (((c.toNat : Int)) == (n : Int)) = false := by rw [beq_eq_false_iff_ne]; omega
    rw [a1]
    exact (beq_eq_false_iff_ne.2 h).symm
def isLet (c : UInt8) : Bool := decide (97 ≤ c.toNat) && decide (c.toNat ≤ 122)
def isDig (c : UInt8) : Bool := decide (48 ≤ c.toNat) && decide (c.toNat ≤ 57)
theorem ok50 (c : UInt8) : Go.Am.Pure Tryd.prog 50 [.d (.lit (.int .u8 (c.toNat : Int)))] (bI (isLet c)) := by
  refine CallOk.of tysOk mixed od50 Tryd.func50 rfl rfl code50 ?_
  unfold isLet
  by_cases h1 : 97 ≤ c.toNat
  · have d1 : decide ((c.toNat : Int) ≥ 97) = true := decide_eq_true (by omega)
    rw [decide_eq_true h1]
    repeat (first | refine W.ite_t rfl ?_ | refine W.ite_f rfl ?_ | refine W.ite_t d1 ?_)
    refine W.ret (RetQ.pure rfl (ret_bI ?_))
    by_cases h2 : c.toNat ≤ 122
    · rw [decide_eq_true h2, decide_eq_true (show (c.toNat : Int) ≤ 122 by omega)]; rfl
    · rw [decide_eq_false h2, decide_eq_false (show ¬ (c.toNat : Int) ≤ 122 by omega)]; rfl
  · have d1 : decide ((c.toNat : Int) ≥ 97) = false := decide_eq_false (by omega)
    rw [decide_eq_false h1]
    repeat (first | refine W.ite_t rfl ?_ | refine W.ite_f rfl ?_ | refine W.ite_f d1 ?_)
    exact W.ret (RetQ.pure rfl (ret_bI rfl))
theorem ok51 (c : UInt8) : Go.Am.Pure Tryd.prog 51 [.d (.lit (.int .u8 (c.toNat : Int)))] (bI (isDig c)) := by
  refine CallOk.of tysOk mixed od51 Tryd.func51 rfl rfl code51 ?_
  unfold isDig
  by_cases h1 : 48 ≤ c.toNat
  · have d1 : decide ((c.toNat : Int) ≥ 48) = true := decide_eq_true (by omega)
    rw [decide_eq_true h1]
    repeat (first | refine W.ite_t rfl ?_ | refine W.ite_f rfl ?_ | refine W.ite_t d1 ?_)
    refine W.ret (RetQ.pure rfl (ret_bI ?_))
    by_cases h2 : c.toNat ≤ 57
    · rw [decide_eq_true h2, decide_eq_true (show (c.toNat : Int) ≤ 57 by omega)]; rfl
    · rw [decide_eq_false h2, decide_eq_false (show ¬ (c.toNat : Int) ≤ 57 by omega)]; rfl
  · have d1 : decide ((c.toNat : Int) ≥ 48) = false := decide_eq_false (by omega)
    rw [decide_eq_false h1]
    repeat (first | refine W.ite_t rfl ?_ | refine W.ite_f rfl ?_ | refine W.ite_f d1 ?_)
    exact W.ret (RetQ.pure rfl (ret_bI rfl))
/-- stop, where something was met already; where nothing was. -/
theorem ok32B (s : ByteArray) (a b x : Int) (hb : 0 ≤ b) : CallOk Tryd.prog 32 [.ptr 0 0, .d (nI x)] (pS s a b) (fun v σ => v = .tuple [] ∧ σ = pS s a b) := by
  refine CallOk.of tysOk mixed od32 Tryd.func32 rfl rfl code32 ?_
  refine W.ite_f (decide_eq_false (by omega)) ?_
  exact W.ret (RetQ.all ⟨rfl, rfl⟩)
theorem ok32N (s : ByteArray) (a x : Int) : CallOk Tryd.prog 32 [.ptr 0 0, .d (nI x)] (pS s a (-1)) (fun v σ => v = .tuple [] ∧ σ = pS s a x) := by
  refine CallOk.of tysOk mixed od32 Tryd.func32 rfl rfl code32 ?_
  refine W.ite_t rfl ?_
  exact W.ret (RetQ.all ⟨rfl, rfl⟩)
/-- blanks. -/
theorem ok30B (s : ByteArray) (a b : Int) (hb : 0 ≤ b) : CallOk Tryd.prog 30 [.ptr 0 0] (pS s a b) (fun v σ => v = .tuple [] ∧ σ = pS s a b) := by
  refine CallOk.of tysOk mixed od30 Tryd.func30 rfl rfl code30 ?_
  refine W.loop (fun k fr σ => fr = [(0, .ptr 0 0)] ∧ σ = pS s a b) 0 (Start.of [0] [] (by simp)) ⟨rfl, rfl⟩ ?_
  rintro k fr σ ⟨rfl, rfl⟩
  have c0 : decide (b < 0) = false := decide_eq_false (by omega)
  repeat (first | refine W.ite_t rfl ?_ | refine W.ite_f rfl ?_ | refine W.ite_f c0 ?_)
  exact W.ret (W.ret (RetQ.all ⟨rfl, rfl⟩))
/-- Does something else than a blank lie ahead? -/
def noBl : List UInt8 → Prop
  | [] => True
  | c :: _ => c ≠ 32
theorem ok30 (s : ByteArray) (n : Nat) {a : Nat} {r : List UInt8} (h : At s a (List.replicate n 32 ++ r)) (hr : noBl r) (hs : s.size ≤ 1000000) :
    CallOk Tryd.prog 30 [.ptr 0 0] (pS s a (-1)) (fun v σ => v = .tuple [] ∧ σ = pS s ((a + n : Nat) : Int) (-1)) := by
  refine CallOk.of tysOk mixed od30 Tryd.func30 rfl rfl code30 ?_
  refine W.loop (fun k fr σ => ∃ j : Nat, fr = [(0, .ptr 0 0)] ∧ σ = pS s ((a + j : Nat) : Int) (-1) ∧ j ≤ n ∧ At s (a + j) (List.replicate (n - j) 32 ++ r) ∧ k = n - j) n (Start.of [0] [] (by simp)) ⟨0, rfl, rfl, by omega, h, rfl⟩ ?_
  rintro k fr σ ⟨j, rfl, rfl, hj, hA, rfl⟩
  by_cases hjn : j < n
  · rw [show n - j = (n - j - 1) + 1 by omega, List.replicate_succ, List.cons_append] at hA
    obtain ⟨h1, h2, h3⟩ := hA.cons
    have c1 : decide (((a + j : Nat) : Int) < (s.size : Int)) = true := decide_eq_true (by omega)
    have c2 : (((s.data.getD (a + j) 0).toNat : Int) == 32) = true := by rw [h2]; rfl
    have g1 : IntKind.i64.wrap (((a + j : Nat) : Int) + 1) = ((a + (j + 1) : Nat) : Int) := by rw [wrap64 (by omega) (by omega)]; omega
    repeat (first | refine W.ite_t rfl ?_ | refine W.ite_f rfl ?_ | refine W.ite_t c1 ?_ | refine W.ite_t c2 ?_ | refine W.need ⟨by omega, by omega⟩ ?_)
    refine W.ret ⟨_, _, _, ?_, Trim.of [0] [0] (by decide) (by simp) pk1, j + 1, rfl, ?_, by omega, ?_, rfl⟩
    · omega
    · show pS s (IntKind.i64.wrap (((a + j : Nat) : Int) + 1)) (-1) = _
      rw [g1]
    · rw [show n - (j + 1) = n - j - 1 by omega]; exact h3
  · obtain rfl : j = n := by omega
    rw [Nat.sub_self] at hA
    cases r with
    | nil =>
      have := At.nil hA
      have c1 : decide (((a + j : Nat) : Int) < (s.size : Int)) = false := decide_eq_false (by omega)
      repeat (first | refine W.ite_t rfl ?_ | refine W.ite_f rfl ?_ | refine W.ite_f c1 ?_)
      exact W.ret (W.ret (RetQ.all ⟨rfl, rfl⟩))
    | cons c r =>
      obtain ⟨h1, h2, h3⟩ := At.cons hA
      have c1 : decide (((a + j : Nat) : Int) < (s.size : Int)) = true := decide_eq_true (by omega)
      have c2 : (((s.data.getD (a + j) 0).toNat : Int) == 32) = false := by
        rw [h2]
        have := u8int c 32 (by decide)
        rw [show ((32 : Nat) : Int) = 32 from rfl] at this
        rw [this]
        exact beq_eq_false_iff_ne.2 hr
      repeat (first | refine W.ite_t rfl ?_ | refine W.ite_f rfl ?_ | refine W.ite_t c1 ?_ | refine W.ite_f c2 ?_ | refine W.need ⟨by omega, by omega⟩ ?_)
      exact W.ret (W.ret (RetQ.all ⟨rfl, rfl⟩))
end Go.Proofs.YtddhlmejaobcgaaDoor.Va

set_option maxRecDepth 100000
set_option linter.unusedVariables false
set_option linter.unusedSimpArgs false
/- The parser of filters: words, marks. -/
namespace Go.Proofs.YtddhlmejaobcgaaDoor.Va
open Go Go.Am
theorem ext_nil (s : ByteArray) (a : Nat) : s.extract a a = txt [] := by
  have : (s.extract a a).data = #[] := by
    apply Array.toList_inj.1
    rw [ByteArray.data_extract, Array.toList_extract, List.extract_eq_take_drop]
    simp
  exact ByteArray.ext this
theorem drop_cons2 {α : Type} {l : List α} {i : Nat} {x : α} (h : l[i]? = some x) : l.drop i = x :: l.drop (i + 1) := by
  obtain ⟨h1, h2⟩ := List.getElem?_eq_some_iff.1 h
  rw [List.drop_eq_getElem_cons h1, h2]
def noWd : List UInt8 → Prop
  | [] => True
  | c :: _ => isLet c = false ∧ isDig c = false
def wdC (c : UInt8) : Bool := isLet c || isDig c
theorem let_noBl {c : UInt8} (h : isLet c = true) : c ≠ 32 := by
  intro e; subst e; exact absurd h (by decide)
set_option maxHeartbeats 4000000 in
theorem ok31 (s : ByteArray) (n : Nat) {a : Nat} {c : UInt8} {w r : List UInt8} (h : At s a (List.replicate n 32 ++ (c :: w ++ r))) (hc : isLet c = true) (hw : ∀ x ∈ w, wdC x = true) (hr : noWd r) (hs : s.size ≤ 1000000) :
    CallOk Tryd.prog 31 [.ptr 0 0] (pS s a (-1)) (fun v σ => v = .d (sD (txt (c :: w))) ∧ σ = pS s ((a + n + (w.length + 1) : Nat) : Int) (-1)) := by
  refine CallOk.of tysOk mixed od31 Tryd.func31 rfl rfl code31 ?_
  refine W.callF [0] _ (ok30 s n h (let_noBl hc) hs) (by decide) rfl rfl rfl rfl rfl rfl ?_
  have hA0 := At.app _ h
  rw [List.length_replicate] at hA0
  generalize hf : a + n = f at *
  have hw0 : ∀ (j : Nat) (x : UInt8), (c :: w)[j]? = some x → isLet x = true ∨ (0 < j ∧ isDig x = true) := by
    intro j x hx
    cases j with
    | zero => obtain rfl : c = x := by simpa using hx
              exact .inl hc
    | succ j =>
      have := hw x (List.mem_of_getElem? (by simpa using hx))
      unfold wdC at this
      rcases Bool.or_eq_true_iff.1 this with h1 | h1
      · exact .inl h1
      · exact .inr ⟨by omega, h1⟩
  refine W.loop (fun k fr σ => ∃ j : Nat, fr = [(0, .ptr 0 0), (3, .d (nI f))] ∧ σ = pS s ((f + j : Nat) : Int) (-1) ∧ j ≤ (c :: w).length ∧ At s (f + j) ((c :: w).drop j ++ r) ∧ k = (c :: w).length - j) (c :: w).length (Start.of [0, 3] [] (by simp)) ⟨0, rfl, rfl, by omega, hA0, rfl⟩ ?_
  rintro k fr σ ⟨j, rfl, rfl, hj, hA, rfl⟩
  by_cases hjn : j < (c :: w).length
  · obtain ⟨x, hx⟩ : ∃ x, (c :: w)[j]? = some x := ⟨_, List.getElem?_eq_getElem hjn⟩
    rw [drop_cons2 hx, List.cons_append] at hA
    obtain ⟨h1, h2, h3⟩ := hA.cons
    have c1 : decide (((f + j : Nat) : Int) < (s.size : Int)) = true := decide_eq_true (by omega)
    have kl := ok50 (s.data.getD (f + j) 0)
    have kd := ok51 (s.data.getD (f + j) 0)
    have g1 : IntKind.i64.wrap (((f + j : Nat) : Int) + 1) = ((f + (j + 1) : Nat) : Int) := by rw [wrap64 (by omega) (by omega)]; omega
    rcases hw0 j x hx with hl | ⟨hj0, hd⟩
    · have c2 := c1
      rw [show isLet (s.data.getD (f + j) 0) = true by rw [h2]; exact hl] at kl
      repeat (first | refine W.ite_t rfl ?_ | refine W.ite_f rfl ?_ | refine W.ite_t c1 ?_ | refine W.need ⟨by omega, by omega⟩ ?_)
      refine W.pure kl rfl rfl ?_
      repeat (first | refine W.ite_t rfl ?_ | refine W.ite_f rfl ?_ | refine W.ite_t c1 ?_ | refine W.ite_t c2 ?_)
      refine W.ret ⟨_, _, _, ?_, Trim.of [0, 3] [0] (by decide) (by simp) pk1, j + 1, rfl, ?_, by omega, h3, rfl⟩
      · omega
      · show pS s (IntKind.i64.wrap (((f + j : Nat) : Int) + 1)) (-1) = _
        rw [g1]
    · have c2 : decide (((f + j : Nat) : Int) > (f : Int)) = true := decide_eq_true (by omega)
      rw [show isDig (s.data.getD (f + j) 0) = true by rw [h2]; exact hd] at kd
      by_cases hl : isLet x = true
      · rw [show isLet (s.data.getD (f + j) 0) = true by rw [h2]; exact hl] at kl
        repeat (first | refine W.ite_t rfl ?_ | refine W.ite_f rfl ?_ | refine W.ite_t c1 ?_ | refine W.need ⟨by omega, by omega⟩ ?_)
        refine W.pure kl rfl rfl ?_
        repeat (first | refine W.ite_t rfl ?_ | refine W.ite_f rfl ?_ | refine W.ite_t c1 ?_ | refine W.ite_t c2 ?_)
        refine W.ret ⟨_, _, _, ?_, Trim.of [0, 3] [0] (by decide) (by simp) pk1, j + 1, rfl, ?_, by omega, h3, rfl⟩
        · omega
        · show pS s (IntKind.i64.wrap (((f + j : Nat) : Int) + 1)) (-1) = _
          rw [g1]
      · have hl : isLet x = false := by simpa using hl
        rw [show isLet (s.data.getD (f + j) 0) = false by rw [h2]; exact hl] at kl
        repeat (first | refine W.ite_t rfl ?_ | refine W.ite_f rfl ?_ | refine W.ite_t c1 ?_ | refine W.need ⟨by omega, by omega⟩ ?_)
        refine W.pure kl rfl rfl ?_
        repeat (first | refine W.ite_t rfl ?_ | refine W.ite_f rfl ?_ | refine W.ite_t c1 ?_ | refine W.ite_t c2 ?_ | refine W.need ⟨by omega, by omega⟩ ?_)
        refine W.pure kd rfl rfl ?_
        repeat (first | refine W.ite_t rfl ?_ | refine W.ite_f rfl ?_ | refine W.ite_t c1 ?_ | refine W.ite_t c2 ?_)
        refine W.ret ⟨_, _, _, ?_, Trim.of [0, 3] [0] (by decide) (by simp) pk1, j + 1, rfl, ?_, by omega, h3, rfl⟩
        · omega
        · show pS s (IntKind.i64.wrap (((f + j : Nat) : Int) + 1)) (-1) = _
          rw [g1]
  · obtain rfl : j = (c :: w).length := by omega
    have hA2 := hA
    rw [List.drop_length, List.nil_append] at hA2
    have hext := At.ext hA0
    have hle := hA2.le
    have e1 : (((f + (c :: w).length : Nat) : Int) == (f : Int)) = false := by rw [beq_eq_false_iff_ne]; simp only [List.length_cons]; omega
    have fin : W Tryd.prog (.need ((0 : Int) ≤ ((f + (c :: w).length : Nat) : Int) ∧ ((f + (c :: w).length : Nat) : Int) ≤ s.size) (.need ((0 : Int) ≤ (f : Int) ∧ (f : Int) ≤ ((((f + (c :: w).length : Nat) : Int).toNat : Nat) : Int)) (.ret .ret [(0, mkRet [.d (sD (s.extract ((f : Int)).toNat (((f + (c :: w).length : Nat) : Int)).toNat))])] (pS s ((f + (c :: w).length : Nat) : Int) (-1))))) (RetQ (pS s a (-1)).length fun v σ => v = .d (sD (txt (c :: w))) ∧ σ = pS s ((f + (w.length + 1) : Nat) : Int) (-1)) := by
      refine W.need ⟨by omega, by omega⟩ (W.need ⟨by omega, by omega⟩ ?_)
      refine W.ret (RetQ.all ⟨?_, rfl⟩)
      rw [Int.toNat_natCast, Int.toNat_natCast, hext]
      rfl
    cases r with
    | nil =>
      have := At.nil hA2
      have c1 : decide (((f + (c :: w).length : Nat) : Int) < (s.size : Int)) = false := decide_eq_false (by omega)
      repeat (first | refine W.ite_t rfl ?_ | refine W.ite_f rfl ?_ | refine W.ite_f c1 ?_)
      refine W.ret ?_
      refine W.ite_f e1 ?_
      exact fin
    | cons x r =>
      obtain ⟨h1, h2, h3⟩ := At.cons hA2
      have c1 : decide (((f + (c :: w).length : Nat) : Int) < (s.size : Int)) = true := decide_eq_true (by omega)
      have c2 : decide (((f + (c :: w).length : Nat) : Int) > (f : Int)) = true := decide_eq_true (by simp only [List.length_cons]; omega)
      have kl := ok50 (s.data.getD (f + (c :: w).length) 0)
      have kd := ok51 (s.data.getD (f + (c :: w).length) 0)
      rw [show isLet (s.data.getD (f + (c :: w).length) 0) = false by rw [h2]; exact hr.1] at kl
      rw [show isDig (s.data.getD (f + (c :: w).length) 0) = false by rw [h2]; exact hr.2] at kd
      repeat (first | refine W.ite_t rfl ?_ | refine W.ite_f rfl ?_ | refine W.ite_t c1 ?_ | refine W.need ⟨by omega, by omega⟩ ?_)
      refine W.pure kl rfl rfl ?_
      repeat (first | refine W.ite_t rfl ?_ | refine W.ite_f rfl ?_ | refine W.ite_t c1 ?_ | refine W.ite_t c2 ?_ | refine W.need ⟨by omega, by omega⟩ ?_)
      refine W.pure kd rfl rfl ?_
      repeat (first | refine W.ite_t rfl ?_ | refine W.ite_f rfl ?_ | refine W.ite_t c1 ?_ | refine W.ite_t c2 ?_)
      refine W.ret ?_
      refine W.ite_f e1 ?_
      exact fin
theorem ok31B (s : ByteArray) (a : Nat) (b : Int) (hb : 0 ≤ b) (ha : a ≤ s.size) : CallOk Tryd.prog 31 [.ptr 0 0] (pS s a b) (fun v σ => v = .d (sD (txt [])) ∧ σ = pS s a b) := by
  refine CallOk.of tysOk mixed od31 Tryd.func31 rfl rfl code31 ?_
  have c0 : decide (b < 0) = false := decide_eq_false (by omega)
  have e1 : ((a : Int) == (a : Int)) = true := beq_self_eq_true _
  refine W.callF [0] _ (ok30B s a b hb) (by decide) rfl rfl rfl rfl rfl rfl ?_
  refine W.loop (fun k fr σ => fr = [(0, .ptr 0 0), (3, .d (nI a))] ∧ σ = pS s a b) 0 (Start.of [0, 3] [] (by simp)) ⟨rfl, rfl⟩ ?_
  rintro k fr σ ⟨rfl, rfl⟩
  repeat (first | refine W.ite_t rfl ?_ | refine W.ite_f rfl ?_ | refine W.ite_f c0 ?_)
  refine W.ret ?_
  refine W.ite_t e1 ?_
  refine W.callF [0] _ (ok32B s a b a hb) (by decide) rfl rfl rfl rfl rfl rfl ?_
  refine W.need ⟨by omega, by omega⟩ (W.need ⟨by omega, by omega⟩ ?_)
  refine W.ret (RetQ.all ⟨?_, rfl⟩)
  show AV.d (sD (s.extract ((a : Int)).toNat ((a : Int)).toNat)) = _
  rw [ext_nil]
theorem ok47B (s m : ByteArray) (a b : Int) (hb : 0 ≤ b) : CallOk Tryd.prog 47 [.ptr 0 0, .d (sD m)] (pS s a b) (fun v σ => v = .tuple [] ∧ σ = pS s a b) := by
  refine CallOk.of tysOk mixed od47 Tryd.func47 rfl rfl code47 ?_
  have c0 : decide (b ≥ 0) = true := decide_eq_true (by omega)
  refine W.callF [0] _ (ok30B s a b hb) (by decide) rfl rfl rfl rfl rfl rfl ?_
  repeat (first | refine W.ite_t rfl ?_ | refine W.ite_f rfl ?_ | refine W.ite_t c0 ?_)
  refine W.callF [0] _ (ok32B s a b a hb) (by decide) rfl rfl rfl rfl rfl rfl ?_
  exact W.ret (RetQ.all ⟨rfl, rfl⟩)
set_option maxHeartbeats 4000000 in
theorem ok47 (s : ByteArray) (n : Nat) {a : Nat} {m r : List UInt8} (h : At s a (List.replicate n 32 ++ (m ++ r))) (hm : noBl (m ++ r)) (hs : s.size ≤ 1000000) :
    CallOk Tryd.prog 47 [.ptr 0 0, .d (sD (txt m))] (pS s a (-1)) (fun v σ => v = .tuple [] ∧ σ = pS s ((a + n + m.length : Nat) : Int) (-1)) := by
  refine CallOk.of tysOk mixed od47 Tryd.func47 rfl rfl code47 ?_
  refine W.callF [0] _ (ok30 s n h hm hs) (by decide) rfl rfl rfl rfl rfl rfl ?_
  have hA0 := At.app _ h
  rw [List.length_replicate] at hA0
  generalize hf : a + n = f at *
  have hA2 := (At.app m hA0).le
  have hfs := hA0.le
  have hext := At.ext hA0
  have ez : (txt m).size = m.length := by show (m.toArray).size = m.length; simp
  have g0 : IntKind.i64.wrap ((s.size : Int) - (f : Int)) = (s.size : Int) - f := wrap64 (by omega) (by omega)
  have g1 : IntKind.i64.wrap ((f : Int) + ((txt m).size : Int)) = ((f + m.length : Nat) : Int) := by rw [ez, wrap64 (by omega) (by omega)]; omega
  have c1 : decide (IntKind.i64.wrap ((s.size : Int) - (f : Int)) < ((txt m).size : Int)) = false := by rw [g0, ez]; exact decide_eq_false (by omega)
  have c2 : (!((s.extract ((f : Int)).toNat (IntKind.i64.wrap ((f : Int) + ((txt m).size : Int))).toNat).toList == (txt m).toList)) = false := by
    rw [g1, Int.toNat_natCast, Int.toNat_natCast, hext]
    show (!((txt m).toList == (txt m).toList)) = false
    rw [beq_self_eq_true]; rfl
  repeat (first | refine W.ite_t rfl ?_ | refine W.ite_f rfl ?_ | refine W.ite_f c1 ?_ | refine W.ite_f c2 ?_ | refine W.need ⟨by rw [g1]; omega, by rw [g1]; omega⟩ ?_ | refine W.need ⟨by omega, by rw [g1]; omega⟩ ?_)
  refine W.ret (RetQ.all ⟨rfl, ?_⟩)
  show pS s (IntKind.i64.wrap ((f : Int) + ((txt m).size : Int))) (-1) = _
  rw [g1]
end Go.Proofs.YtddhlmejaobcgaaDoor.Va

set_option maxRecDepth 100000
set_option linter.unusedVariables false
set_option linter.unusedSimpArgs false
/- The parser of filters: numbers. -/
namespace Go.Proofs.YtddhlmejaobcgaaDoor.Va
open Go Go.Am
def od49 : Ords := [(5, [0, 1, 2, 3, 4, 5, 6, 7, 8, 9, 10, 11, 12, 13, 14, 15, 16, 17, 18, 19, 20, 21]), (9, [0, 1, 2, 3, 4, 5, 6, 7, 8, 9, 10, 11, 12, 13, 14, 15, 16, 17, 18, 19, 1020, 21]), (13, [0, 1, 2, 3, 4, 5, 6, 7, 8, 9, 10, 11, 12, 13, 14])]
theorem code49 : codeB Tryd.f49.ntmps od49 (match Tryd.f49.body with | some c => c | none => .skip) = true := by kernel_rfl
/-- What digits say. -/
def vald (l : List UInt8) : Nat := l.foldl (fun a c => 10 * a + (c.toNat - 48)) 0
theorem vald_snoc (l : List UInt8) (c : UInt8) : vald (l ++ [c]) = 10 * vald l + (c.toNat - 48) := by
  unfold vald; rw [List.foldl_append]; rfl
theorem isDig_le {c : UInt8} (h : isDig c = true) : 48 ≤ c.toNat ∧ c.toNat ≤ 57 := by
  unfold isDig at h
  rw [Bool.and_eq_true] at h
  exact ⟨of_decide_eq_true h.1, of_decide_eq_true h.2⟩
theorem take_next2 {α : Type} {l : List α} {i : Nat} {x : α} (h : l[i]? = some x) : l.take (i + 1) = l.take i ++ [x] := by rw [List.take_add_one, h]; rfl
theorem vald_lt {w : List UInt8} (hw : ∀ x ∈ w, isDig x = true) : ∀ j, j ≤ w.length → vald (w.take j) < 10 ^ j
  | 0, _ => by simp [vald]
  | j + 1, h => by
    have ih := vald_lt hw j (by omega)
    obtain ⟨x, hx⟩ : ∃ x, w[j]? = some x := ⟨_, List.getElem?_eq_getElem (by omega)⟩
    have hd := isDig_le (hw x (List.mem_of_getElem? hx))
    rw [take_next2 hx, vald_snoc, Nat.pow_succ]
    omega
def noDg : List UInt8 → Prop
  | [] => True
  | c :: _ => isDig c = false
/-- A number's text: a sign, digits. -/
def sgW (neg : Bool) (w : List UInt8) : List UInt8 := if neg then 45 :: w else w
def sgV (neg : Bool) (w : List UInt8) : Int := if neg then -(vald w : Int) else (vald w : Int)
theorem ok49B (s : ByteArray) (a b : Int) (hb : 0 ≤ b) : CallOk Tryd.prog 49 [.ptr 0 0] (pS s a b) (fun v σ => v = .d (nI 0) ∧ σ = pS s a b) := by
  refine CallOk.of tysOk mixed od49 Tryd.func49 rfl rfl code49 ?_
  have c0 : decide (b ≥ 0) = true := decide_eq_true (by omega)
  refine W.callF [0] _ (ok30B s a b hb) (by decide) rfl rfl rfl rfl rfl rfl ?_
  refine W.ite_t c0 ?_
  exact W.ret (RetQ.all ⟨rfl, rfl⟩)
set_option maxHeartbeats 8000000 in
/-- The digits' loop and the end. -/
theorem ok49 (s : ByteArray) (n : Nat) {a : Nat} (neg : Bool) {c : UInt8} {w' r : List UInt8} (h : At s a (List.replicate n 32 ++ (sgW neg (c :: w') ++ r))) (hw : ∀ x ∈ c :: w', isDig x = true) (hl : (c :: w').length ≤ 10) (hr : noDg r)
    (z : Bool) (hz : z = (decide (0 < w'.length) && (c == 48))) (hn : neg = true → vald (c :: w') ≠ 0) (hs : s.size ≤ 1000000) :
    CallOk Tryd.prog 49 [.ptr 0 0] (pS s a (-1)) (fun v σ => v = .d (nI (sgV neg (c :: w'))) ∧ σ = pS s ((a + n + (sgW neg (c :: w')).length : Nat) : Int) (if z = true then ((a + n : Nat) : Int) else -1)) := by
  refine CallOk.of tysOk mixed od49 Tryd.func49 rfl rfl code49 ?_
  have hc := isDig_le (hw c (List.mem_cons_self ..))
  have hbl : noBl (sgW neg (c :: w') ++ r) := by
    cases neg with
    | true => show (45 : UInt8) ≠ 32; decide
    | false =>
      show c ≠ 32
      intro e; subst e; exact absurd hc.1 (by decide)
  refine W.callF [0] _ (ok30 s n h hbl hs) (by decide) rfl rfl rfl rfl rfl rfl ?_
  have hA0 := At.app _ h
  rw [List.length_replicate] at hA0
  generalize hf : a + n = f at *
  have tailL : ∀ j, j < (c :: w').length → ∃ x, (c :: w')[j]? = some x := fun j hj => ⟨_, List.getElem?_eq_getElem hj⟩
  obtain ⟨f1, sg, hsg, hf1, hA1⟩ : ∃ (f1 : Nat) (sg : Int), sg = (if neg = true then -1 else 1) ∧ f1 = f + (if neg = true then 1 else 0) ∧ At s f1 ((c :: w') ++ r) := by
    cases neg with
    | true => exact ⟨f + 1, -1, rfl, rfl, (At.cons hA0).2.2⟩
    | false => exact ⟨f, 1, rfl, rfl, hA0⟩
  have hlen : f + (sgW neg (c :: w')).length = f1 + (c :: w').length := by
    rw [hf1]; unfold sgW; cases neg <;> simp [List.length_cons]; omega
  have hle1 := (At.app _ hA1).le
  have hfs := hA0.le
  have hsplit : neg = true ∨ neg = false := by cases neg <;> simp
  rcases hsplit with hneg | hneg
  · subst hneg
    obtain ⟨q1, q2, q3⟩ := At.cons (show At s f (45 :: ((c :: w') ++ r)) from hA0)
    have c1 : decide ((f : Int) < (s.size : Int)) = true := decide_eq_true (by omega)
    have c2 : (((s.data.getD f 0).toNat : Int) == 45) = true := by rw [q2]; rfl
    have g0 : IntKind.i64.wrap ((f : Int) + 1) = ((f + 1 : Nat) : Int) := by rw [wrap64 (by omega) (by omega)]; omega
    repeat (first | refine W.ite_t rfl ?_ | refine W.ite_f rfl ?_ | refine W.ite_t c1 ?_ | refine W.ite_t c2 ?_ | refine W.need ⟨by omega, by omega⟩ ?_)
    refine W.loop (fun k fr σ => ∃ j : Nat, fr = [(0, .ptr 0 0), (3, .d (nI f)), (4, .d (nI sg)), (5, .d (nI (vald ((c :: w').take j)))), (6, .d (nI f1))] ∧ σ = pS s ((f1 + j : Nat) : Int) (-1) ∧ j ≤ (c :: w').length ∧ At s (f1 + j) ((c :: w').drop j ++ r) ∧ k = (c :: w').length - j) (c :: w').length (Start.of [0, 3, 4, 5, 6] [] (by simp)) ⟨0, ?FR, ?ST, by omega, hA1, rfl⟩ ?_
    case FR => rw [hsg, hf1]; first | rfl | (simp only [if_true, if_false, Bool.false_eq_true, ← g0]; rfl)
    case ST => rw [hf1]; first | rfl | (simp only [if_true, if_false, Bool.false_eq_true, ← g0]; rfl)
    rintro k fr σ ⟨j, rfl, rfl, hj, hA, rfl⟩
    by_cases hjn : j < (c :: w').length
    · obtain ⟨x, hx⟩ := tailL j hjn
      rw [drop_cons2 hx, List.cons_append] at hA
      obtain ⟨h1, h2, h3⟩ := hA.cons
      have c1 : decide (((f1 + j : Nat) : Int) < (s.size : Int)) = true := decide_eq_true (by omega)
      have hxd := isDig_le (hw x (List.mem_of_getElem? hx))
      have kd := ok51 (s.data.getD (f1 + j) 0)
      rw [show isDig (s.data.getD (f1 + j) 0) = true by rw [h2]; exact hw x (List.mem_of_getElem? hx)] at kd
      have c3 : decide (IntKind.i64.wrap (((f1 + j : Nat) : Int) - (f1 : Int)) ≥ 10) = false := by rw [wrap64 (by omega) (by omega)]; exact decide_eq_false (by omega)
      have hv := vald_lt hw j (by omega)
      have hv10 : 10 ^ j ≤ 10 ^ 10 := Nat.pow_le_pow_right (by decide) (by omega)
      have g1 : IntKind.i64.wrap (((f1 + j : Nat) : Int) + 1) = ((f1 + (j + 1) : Nat) : Int) := by rw [wrap64 (by omega) (by omega)]; omega
      have g2 : IntKind.i64.wrap (IntKind.i64.wrap (10 * ((vald ((c :: w').take j) : Nat) : Int)) + IntKind.i64.wrap (IntKind.u8.wrap (((s.data.getD (f1 + j) 0).toNat : Int) - 48))) = ((vald ((c :: w').take (j + 1)) : Nat) : Int) := by
        rw [h2, take_next2 hx, vald_snoc]
        have e8 : IntKind.u8.wrap ((x.toNat : Int) - 48) = ((x.toNat - 48 : Nat) : Int) := by
          rw [show (x.toNat : Int) - 48 = ((x.toNat - 48 : Nat) : Int) by omega]
          unfold IntKind.wrap
          simp [IntKind.bits, IntKind.signed]
          omega
        have w1 : IntKind.i64.wrap (10 * ((vald ((c :: w').take j) : Nat) : Int)) = 10 * ((vald ((c :: w').take j) : Nat) : Int) := wrap64 (by omega) (by omega)
        have w2 : IntKind.i64.wrap ((x.toNat - 48 : Nat) : Int) = ((x.toNat - 48 : Nat) : Int) := wrap64 (by omega) (by omega)
        rw [e8, w1, w2, wrap64 (by omega) (by omega)]
        omega
      repeat (first | refine W.ite_t rfl ?_ | refine W.ite_f rfl ?_ | refine W.ite_t c1 ?_ | refine W.ite_f c3 ?_ | refine W.need ⟨by omega, by omega⟩ ?_ | refine W.pure kd rfl rfl ?_)
      refine W.ret ⟨_, _, _, ?_, Trim.of [0, 3, 4, 5, 6] [0] (by decide) (by simp) pk1, j + 1, ?_, ?_, by omega, h3, rfl⟩
      · omega
      · rw [← g2]; rfl
      · show pS s (IntKind.i64.wrap (((f1 + j : Nat) : Int) + 1)) (-1) = _
        rw [g1]
    · obtain rfl : j = (c :: w').length := by omega
      have hA2 := hA
      rw [List.drop_length, List.nil_append] at hA2
      have hLl : (c :: w').length = w'.length + 1 := rfl
      rw [List.take_length]
      have hv := vald_lt hw (c :: w').length (Nat.le_refl _)
      rw [List.take_length] at hv
      have hv10 : 10 ^ (c :: w').length ≤ 10 ^ 10 := Nat.pow_le_pow_right (by decide) hl
      have e1 : (((f1 + (c :: w').length : Nat) : Int) == (f1 : Int)) = false := by rw [beq_eq_false_iff_ne]; omega
      have g3 : IntKind.i64.wrap (((f1 + (c :: w').length : Nat) : Int) - (f1 : Int)) = ((w'.length + 1 : Nat) : Int) := by rw [wrap64 (by omega) (by omega)]; omega
      have hc0 := (At.cons hA1).2.1
      have hlt1 := (At.cons hA1).1
      have e5 : (((s.data.getD f1 0).toNat : Int) == 48) = (c == 48) := by
        rw [hc0]
        exact u8int c 48 (by decide)
      have e6 : decide (sg < 0) = true := by rw [hsg]; rfl
      have fin : W Tryd.prog (.ret .ret [(0, mkRet [.d (nI (IntKind.i64.wrap (sg * ((vald (c :: w') : Nat) : Int))))])] (pS s ((f1 + (c :: w').length : Nat) : Int) (if z = true then (f : Int) else -1))) (RetQ (pS s a (-1)).length fun v σ => v = .d (nI (sgV true (c :: w'))) ∧ σ = pS s ((f + (sgW true (c :: w')).length : Nat) : Int) (if z = true then (f : Int) else -1)) := by
        refine W.ret (RetQ.all ⟨?_, by rw [hlen]⟩)
        have : IntKind.i64.wrap (sg * ((vald (c :: w') : Nat) : Int)) = sgV true (c :: w') := by
          rw [hsg]; unfold sgV
          simp only [if_true]; rw [wrap64 (by omega) (by omega)]; omega
        rw [this]; rfl
      cases r with
      | nil =>
        have := At.nil hA2
        have c1 : decide (((f1 + (c :: w').length : Nat) : Int) < (s.size : Int)) = false := decide_eq_false (by omega)
        repeat (first | refine W.ite_t rfl ?_ | refine W.ite_f rfl ?_ | refine W.ite_f c1 ?_)
        refine W.ret ?_
        have e4 : decide (IntKind.i64.wrap (((f1 + (c :: w').length : Nat) : Int) - (f1 : Int)) > 1) = decide (0 < w'.length) := by
          rw [g3]
          by_cases hh : 0 < w'.length
          · rw [decide_eq_true hh]; exact decide_eq_true (by omega)
          · rw [decide_eq_false hh]; exact decide_eq_false (by omega)
        have e7 : true = true → (((vald (c :: w') : Nat) : Int) == 0) = false := fun hneg => by rw [beq_eq_false_iff_ne]; have := hn hneg; omega
        have exits : ∀ {x : Res}, W Tryd.prog x (fun e fr σ => True) → True := fun _ => trivial
        clear exits
        cases hwl : decide (0 < w'.length) with
        | false =>
          rw [hwl] at e4 hz
          simp only [Bool.false_and] at hz
          subst hz
          repeat (first | refine W.ite_t rfl ?_ | refine W.ite_f rfl ?_ | refine W.ite_f e1 ?_ | refine W.ite_t e4 ?_ | refine W.ite_f e4 ?_ | refine W.ite_t e5 ?_ | refine W.ite_f e5 ?_ | refine W.ite_t e6 ?_ | refine W.ite_f e6 ?_ | refine W.ite_f (e7 rfl) ?_ | refine W.need ⟨by omega, by omega⟩ ?_)
          exact fin
        | true =>
          rw [hwl] at e4 hz
          cases hc48 : c == 48 with
          | false =>
            rw [hc48] at e5 hz
            simp only [Bool.true_and] at hz
            subst hz
            repeat (first | refine W.ite_t rfl ?_ | refine W.ite_f rfl ?_ | refine W.ite_f e1 ?_ | refine W.ite_t e4 ?_ | refine W.ite_f e4 ?_ | refine W.ite_t e5 ?_ | refine W.ite_f e5 ?_ | refine W.ite_t e6 ?_ | refine W.ite_f e6 ?_ | refine W.ite_f (e7 rfl) ?_ | refine W.need ⟨by omega, by omega⟩ ?_)
            exact fin
          | true =>
            rw [hc48] at e5 hz
            simp only [Bool.true_and] at hz
            subst hz
            repeat (first | refine W.ite_t rfl ?_ | refine W.ite_f rfl ?_ | refine W.ite_f e1 ?_ | refine W.ite_t e4 ?_ | refine W.ite_f e4 ?_ | refine W.ite_t e5 ?_ | refine W.ite_f e5 ?_ | refine W.ite_t e6 ?_ | refine W.ite_f e6 ?_ | refine W.ite_f (e7 rfl) ?_ | refine W.need ⟨by omega, by omega⟩ ?_)
            refine W.callF [0] _ (ok32N s ((f1 + (c :: w').length : Nat) : Int) f) (by decide) rfl rfl rfl rfl rfl rfl ?_
            exact fin
      | cons x r =>
        obtain ⟨h1, h2, h3⟩ := At.cons hA2
        have c1 : decide (((f1 + (c :: w').length : Nat) : Int) < (s.size : Int)) = true := decide_eq_true (by omega)
        have kd := ok51 (s.data.getD (f1 + (c :: w').length) 0)
        rw [show isDig (s.data.getD (f1 + (c :: w').length) 0) = false by rw [h2]; exact hr] at kd
        repeat (first | refine W.ite_t rfl ?_ | refine W.ite_f rfl ?_ | refine W.ite_t c1 ?_ | refine W.need ⟨by omega, by omega⟩ ?_ | refine W.pure kd rfl rfl ?_)
        refine W.ret ?_
        have e4 : decide (IntKind.i64.wrap (((f1 + (c :: w').length : Nat) : Int) - (f1 : Int)) > 1) = decide (0 < w'.length) := by
          rw [g3]
          by_cases hh : 0 < w'.length
          · rw [decide_eq_true hh]; exact decide_eq_true (by omega)
          · rw [decide_eq_false hh]; exact decide_eq_false (by omega)
        have e7 : true = true → (((vald (c :: w') : Nat) : Int) == 0) = false := fun hneg => by rw [beq_eq_false_iff_ne]; have := hn hneg; omega
        have exits : ∀ {x : Res}, W Tryd.prog x (fun e fr σ => True) → True := fun _ => trivial
        clear exits
        cases hwl : decide (0 < w'.length) with
        | false =>
          rw [hwl] at e4 hz
          simp only [Bool.false_and] at hz
          subst hz
          repeat (first | refine W.ite_t rfl ?_ | refine W.ite_f rfl ?_ | refine W.ite_f e1 ?_ | refine W.ite_t e4 ?_ | refine W.ite_f e4 ?_ | refine W.ite_t e5 ?_ | refine W.ite_f e5 ?_ | refine W.ite_t e6 ?_ | refine W.ite_f e6 ?_ | refine W.ite_f (e7 rfl) ?_ | refine W.need ⟨by omega, by omega⟩ ?_)
          exact fin
        | true =>
          rw [hwl] at e4 hz
          cases hc48 : c == 48 with
          | false =>
            rw [hc48] at e5 hz
            simp only [Bool.true_and] at hz
            subst hz
            repeat (first | refine W.ite_t rfl ?_ | refine W.ite_f rfl ?_ | refine W.ite_f e1 ?_ | refine W.ite_t e4 ?_ | refine W.ite_f e4 ?_ | refine W.ite_t e5 ?_ | refine W.ite_f e5 ?_ | refine W.ite_t e6 ?_ | refine W.ite_f e6 ?_ | refine W.ite_f (e7 rfl) ?_ | refine W.need ⟨by omega, by omega⟩ ?_)
            exact fin
          | true =>
            rw [hc48] at e5 hz
            simp only [Bool.true_and] at hz
            subst hz
            repeat (first | refine W.ite_t rfl ?_ | refine W.ite_f rfl ?_ | refine W.ite_f e1 ?_ | refine W.ite_t e4 ?_ | refine W.ite_f e4 ?_ | refine W.ite_t e5 ?_ | refine W.ite_f e5 ?_ | refine W.ite_t e6 ?_ | refine W.ite_f e6 ?_ | refine W.ite_f (e7 rfl) ?_ | refine W.need ⟨by omega, by omega⟩ ?_)
            refine W.callF [0] _ (ok32N s ((f1 + (c :: w').length : Nat) : Int) f) (by decide) rfl rfl rfl rfl rfl rfl ?_
            exact fin
  · subst hneg
    obtain ⟨q1, q2, q3⟩ := At.cons (show At s f (c :: (w' ++ r)) from hA0)
    have c1 : decide ((f : Int) < (s.size : Int)) = true := decide_eq_true (by omega)
    have c2 : (((s.data.getD f 0).toNat : Int) == 45) = false := by rw [q2, beq_eq_false_iff_ne]; omega
    have g0 : (f : Int) = f := rfl
    repeat (first | refine W.ite_t rfl ?_ | refine W.ite_f rfl ?_ | refine W.ite_t c1 ?_ | refine W.ite_f c2 ?_ | refine W.need ⟨by omega, by omega⟩ ?_)
    refine W.loop (fun k fr σ => ∃ j : Nat, fr = [(0, .ptr 0 0), (3, .d (nI f)), (4, .d (nI sg)), (5, .d (nI (vald ((c :: w').take j)))), (6, .d (nI f1))] ∧ σ = pS s ((f1 + j : Nat) : Int) (-1) ∧ j ≤ (c :: w').length ∧ At s (f1 + j) ((c :: w').drop j ++ r) ∧ k = (c :: w').length - j) (c :: w').length (Start.of [0, 3, 4, 5, 6] [] (by simp)) ⟨0, ?FR, ?ST, by omega, hA1, rfl⟩ ?_
    case FR => rw [hsg, hf1]; first | rfl | (simp only [if_true, if_false, Bool.false_eq_true, ← g0]; rfl)
    case ST => rw [hf1]; first | rfl | (simp only [if_true, if_false, Bool.false_eq_true, ← g0]; rfl)
    rintro k fr σ ⟨j, rfl, rfl, hj, hA, rfl⟩
    by_cases hjn : j < (c :: w').length
    · obtain ⟨x, hx⟩ := tailL j hjn
      rw [drop_cons2 hx, List.cons_append] at hA
      obtain ⟨h1, h2, h3⟩ := hA.cons
      have c1 : decide (((f1 + j : Nat) : Int) < (s.size : Int)) = true := decide_eq_true (by omega)
      have hxd := isDig_le (hw x (List.mem_of_getElem? hx))
      have kd := ok51 (s.data.getD (f1 + j) 0)
      rw [show isDig (s.data.getD (f1 + j) 0) = true by rw [h2]; exact hw x (List.mem_of_getElem? hx)] at kd
      have c3 : decide (IntKind.i64.wrap (((f1 + j : Nat) : Int) - (f1 : Int)) ≥ 10) = false := by rw [wrap64 (by omega) (by omega)]; exact decide_eq_false (by omega)
      have hv := vald_lt hw j (by omega)
      have hv10 : 10 ^ j ≤ 10 ^ 10 := Nat.pow_le_pow_right (by decide) (by omega)
      have g1 : IntKind.i64.wrap (((f1 + j : Nat) : Int) + 1) = ((f1 + (j + 1) : Nat) : Int) := by rw [wrap64 (by omega) (by omega)]; omega
      have g2 : IntKind.i64.wrap (IntKind.i64.wrap (10 * ((vald ((c :: w').take j) : Nat) : Int)) + IntKind.i64.wrap (IntKind.u8.wrap (((s.data.getD (f1 + j) 0).toNat : Int) - 48))) = ((vald ((c :: w').take (j + 1)) : Nat) : Int) := by
        rw [h2, take_next2 hx, vald_snoc]
        have e8 : IntKind.u8.wrap ((x.toNat : Int) - 48) = ((x.toNat - 48 : Nat) : Int) := by
          rw [show (x.toNat : Int) - 48 = ((x.toNat - 48 : Nat) : Int) by omega]
          unfold IntKind.wrap
          simp [IntKind.bits, IntKind.signed]
          omega
        have w1 : IntKind.i64.wrap (10 * ((vald ((c :: w').take j) : Nat) : Int)) = 10 * ((vald ((c :: w').take j) : Nat) : Int) := wrap64 (by omega) (by omega)
        have w2 : IntKind.i64.wrap ((x.toNat - 48 : Nat) : Int) = ((x.toNat - 48 : Nat) : Int) := wrap64 (by omega) (by omega)
        rw [e8, w1, w2, wrap64 (by omega) (by omega)]
        omega
      repeat (first | refine W.ite_t rfl ?_ | refine W.ite_f rfl ?_ | refine W.ite_t c1 ?_ | refine W.ite_f c3 ?_ | refine W.need ⟨by omega, by omega⟩ ?_ | refine W.pure kd rfl rfl ?_)
      refine W.ret ⟨_, _, _, ?_, Trim.of [0, 3, 4, 5, 6] [0] (by decide) (by simp) pk1, j + 1, ?_, ?_, by omega, h3, rfl⟩
      · omega
      · rw [← g2]; rfl
      · show pS s (IntKind.i64.wrap (((f1 + j : Nat) : Int) + 1)) (-1) = _
        rw [g1]
    · obtain rfl : j = (c :: w').length := by omega
      have hA2 := hA
      rw [List.drop_length, List.nil_append] at hA2
      have hLl : (c :: w').length = w'.length + 1 := rfl
      rw [List.take_length]
      have hv := vald_lt hw (c :: w').length (Nat.le_refl _)
      rw [List.take_length] at hv
      have hv10 : 10 ^ (c :: w').length ≤ 10 ^ 10 := Nat.pow_le_pow_right (by decide) hl
      have e1 : (((f1 + (c :: w').length : Nat) : Int) == (f1 : Int)) = false := by rw [beq_eq_false_iff_ne]; omega
      have g3 : IntKind.i64.wrap (((f1 + (c :: w').length : Nat) : Int) - (f1 : Int)) = ((w'.length + 1 : Nat) : Int) := by rw [wrap64 (by omega) (by omega)]; omega
      have hc0 := (At.cons hA1).2.1
      have hlt1 := (At.cons hA1).1
      have e5 : (((s.data.getD f1 0).toNat : Int) == 48) = (c == 48) := by
        rw [hc0]
        exact u8int c 48 (by decide)
      have e6 : decide (sg < 0) = false := by rw [hsg]; rfl
      have fin : W Tryd.prog (.ret .ret [(0, mkRet [.d (nI (IntKind.i64.wrap (sg * ((vald (c :: w') : Nat) : Int))))])] (pS s ((f1 + (c :: w').length : Nat) : Int) (if z = true then (f : Int) else -1))) (RetQ (pS s a (-1)).length fun v σ => v = .d (nI (sgV false (c :: w'))) ∧ σ = pS s ((f + (sgW false (c :: w')).length : Nat) : Int) (if z = true then (f : Int) else -1)) := by
        refine W.ret (RetQ.all ⟨?_, by rw [hlen]⟩)
        have : IntKind.i64.wrap (sg * ((vald (c :: w') : Nat) : Int)) = sgV false (c :: w') := by
          rw [hsg]; unfold sgV
          simp only [Bool.false_eq_true, if_false]; rw [wrap64 (by omega) (by omega)]; omega
        rw [this]; rfl
      cases r with
      | nil =>
        have := At.nil hA2
        have c1 : decide (((f1 + (c :: w').length : Nat) : Int) < (s.size : Int)) = false := decide_eq_false (by omega)
        repeat (first | refine W.ite_t rfl ?_ | refine W.ite_f rfl ?_ | refine W.ite_f c1 ?_)
        refine W.ret ?_
        have e4 : decide (IntKind.i64.wrap (((f1 + (c :: w').length : Nat) : Int) - (f1 : Int)) > 1) = decide (0 < w'.length) := by
          rw [g3]
          by_cases hh : 0 < w'.length
          · rw [decide_eq_true hh]; exact decide_eq_true (by omega)
          · rw [decide_eq_false hh]; exact decide_eq_false (by omega)
        have e7 : false = true → (((vald (c :: w') : Nat) : Int) == 0) = false := fun hneg => by rw [beq_eq_false_iff_ne]; have := hn hneg; omega
        have exits : ∀ {x : Res}, W Tryd.prog x (fun e fr σ => True) → True := fun _ => trivial
        clear exits
        cases hwl : decide (0 < w'.length) with
        | false =>
          rw [hwl] at e4 hz
          simp only [Bool.false_and] at hz
          subst hz
          repeat (first | refine W.ite_t rfl ?_ | refine W.ite_f rfl ?_ | refine W.ite_f e1 ?_ | refine W.ite_t e4 ?_ | refine W.ite_f e4 ?_ | refine W.ite_t e5 ?_ | refine W.ite_f e5 ?_ | refine W.ite_t e6 ?_ | refine W.ite_f e6 ?_ | refine W.ite_f (e7 rfl) ?_ | refine W.need ⟨by omega, by omega⟩ ?_)
          exact fin
        | true =>
          rw [hwl] at e4 hz
          cases hc48 : c == 48 with
          | false =>
            rw [hc48] at e5 hz
            simp only [Bool.true_and] at hz
            subst hz
            repeat (first | refine W.ite_t rfl ?_ | refine W.ite_f rfl ?_ | refine W.ite_f e1 ?_ | refine W.ite_t e4 ?_ | refine W.ite_f e4 ?_ | refine W.ite_t e5 ?_ | refine W.ite_f e5 ?_ | refine W.ite_t e6 ?_ | refine W.ite_f e6 ?_ | refine W.ite_f (e7 rfl) ?_ | refine W.need ⟨by omega, by omega⟩ ?_)
            exact fin
          | true =>
            rw [hc48] at e5 hz
            simp only [Bool.true_and] at hz
            subst hz
            repeat (first | refine W.ite_t rfl ?_ | refine W.ite_f rfl ?_ | refine W.ite_f e1 ?_ | refine W.ite_t e4 ?_ | refine W.ite_f e4 ?_ | refine W.ite_t e5 ?_ | refine W.ite_f e5 ?_ | refine W.ite_t e6 ?_ | refine W.ite_f e6 ?_ | refine W.ite_f (e7 rfl) ?_ | refine W.need ⟨by omega, by omega⟩ ?_)
            refine W.callF [0] _ (ok32N s ((f1 + (c :: w').length : Nat) : Int) f) (by decide) rfl rfl rfl rfl rfl rfl ?_
            exact fin
      | cons x r =>
        obtain ⟨h1, h2, h3⟩ := At.cons hA2
        have c1 : decide (((f1 + (c :: w').length : Nat) : Int) < (s.size : Int)) = true := decide_eq_true (by omega)
        have kd := ok51 (s.data.getD (f1 + (c :: w').length) 0)
        rw [show isDig (s.data.getD (f1 + (c :: w').length) 0) = false by rw [h2]; exact hr] at kd
        repeat (first | refine W.ite_t rfl ?_ | refine W.ite_f rfl ?_ | refine W.ite_t c1 ?_ | refine W.need ⟨by omega, by omega⟩ ?_ | refine W.pure kd rfl rfl ?_)
        refine W.ret ?_
        have e4 : decide (IntKind.i64.wrap (((f1 + (c :: w').length : Nat) : Int) - (f1 : Int)) > 1) = decide (0 < w'.length) := by
          rw [g3]
          by_cases hh : 0 < w'.length
          · rw [decide_eq_true hh]; exact decide_eq_true (by omega)
          · rw [decide_eq_false hh]; exact decide_eq_false (by omega)
        have e7 : false = true → (((vald (c :: w') : Nat) : Int) == 0) = false := fun hneg => by rw [beq_eq_false_iff_ne]; have := hn hneg; omega
        have exits : ∀ {x : Res}, W Tryd.prog x (fun e fr σ => True) → True := fun _ => trivial
        clear exits
        cases hwl : decide (0 < w'.length) with
        | false =>
          rw [hwl] at e4 hz
          simp only [Bool.false_and] at hz
          subst hz
          repeat (first | refine W.ite_t rfl ?_ | refine W.ite_f rfl ?_ | refine W.ite_f e1 ?_ | refine W.ite_t e4 ?_ | refine W.ite_f e4 ?_ | refine W.ite_t e5 ?_ | refine W.ite_f e5 ?_ | refine W.ite_t e6 ?_ | refine W.ite_f e6 ?_ | refine W.ite_f (e7 rfl) ?_ | refine W.need ⟨by omega, by omega⟩ ?_)
          exact fin
        | true =>
          rw [hwl] at e4 hz
          cases hc48 : c == 48 with
          | false =>
            rw [hc48] at e5 hz
            simp only [Bool.true_and] at hz
            subst hz
            repeat (first | refine W.ite_t rfl ?_ | refine W.ite_f rfl ?_ | refine W.ite_f e1 ?_ | refine W.ite_t e4 ?_ | refine W.ite_f e4 ?_ | refine W.ite_t e5 ?_ | refine W.ite_f e5 ?_ | refine W.ite_t e6 ?_ | refine W.ite_f e6 ?_ | refine W.ite_f (e7 rfl) ?_ | refine W.need ⟨by omega, by omega⟩ ?_)
            exact fin
          | true =>
            rw [hc48] at e5 hz
            simp only [Bool.true_and] at hz
            subst hz
            repeat (first | refine W.ite_t rfl ?_ | refine W.ite_f rfl ?_ | refine W.ite_f e1 ?_ | refine W.ite_t e4 ?_ | refine W.ite_f e4 ?_ | refine W.ite_t e5 ?_ | refine W.ite_f e5 ?_ | refine W.ite_t e6 ?_ | refine W.ite_f e6 ?_ | refine W.ite_f (e7 rfl) ?_ | refine W.need ⟨by omega, by omega⟩ ?_)
            refine W.callF [0] _ (ok32N s ((f1 + (c :: w').length : Nat) : Int) f) (by decide) rfl rfl rfl rfl rfl rfl ?_
            exact fin
end Go.Proofs.YtddhlmejaobcgaaDoor.Va

set_option maxRecDepth 100000
set_option linter.unusedVariables false
set_option linter.unusedSimpArgs false
/- Filters printed: quotes. -/
namespace Go.Proofs.YtddhlmejaobcgaaDoor.Va
open Go Go.Am
def od41 : Ords := []
theorem code41 : codeB Tryd.f41.ntmps od41 (match Tryd.f41.body with | some c => c | none => .skip) = true := by kernel_rfl
abbrev b8 (b : UInt8) : D := .lit (.int .u8 (b.toNat : Int))
def b8s (l : List UInt8) : List D := l.map b8
theorem b8s_len (l : List UInt8) : (b8s l).length = l.length := by simp [b8s]
theorem b8s_app (a b : List UInt8) : b8s (a ++ b) = b8s a ++ b8s b := by simp [b8s]
theorem b8s_one (l : List UInt8) : ∀ c ∈ b8s l, c.one = true := fun c h => by
  obtain ⟨b, _, rfl⟩ := List.mem_map.1 h; rfl
theorem b8s_byte (l : List UInt8) : ∀ c ∈ b8s l, isByte c := fun c h => by
  obtain ⟨b, _, rfl⟩ := List.mem_map.1 h
  have := b.toNat_lt
  exact ⟨rfl, by simp only [D.toI]; omega, by simp only [D.toI]; omega⟩
theorem b8s_text (l : List UInt8) : bytesOf (b8s l) = txt l := by
  unfold bytesOf b8s txt
  congr 1
  congr 1
  rw [List.map_map]
  conv => rhs; rw [← List.map_id l]
  refine List.map_congr_left fun b _ => ?_
  simp [D.toI]
theorem b8E {l : List UInt8} {i : Nat} {b : UInt8} (h : l[i]? = some b) : Elem (b8s l) [.int .u8] (i * 1) 1 [b8 b] := by
  have e : ∀ l : List UInt8, flat (fun b => [b8 b]) l = b8s l := fun l => by
    induction l with
    | nil => rfl
    | cons x r ih => show b8 x :: flat _ r = b8 x :: b8s r; rw [ih]
  have := Elem.all (c := fun b => [b8 b]) (sz := 1) (fun _ => rfl) h [.int .u8] rfl ⟨rfl, True.intro⟩ rfl
  rwa [e] at this
theorem ret_sD' {a b : ByteArray} (h : a = b) : mkRet [.d (.lit (.string a))] = .d (sD b) := by subst h; rfl
/-- Between quotes. -/
def esc : List UInt8 → List UInt8
  | [] => []
  | c :: r => if c = 34 ∨ c = 92 then 92 :: c :: esc r else c :: esc r
theorem esc_app : ∀ (a b : List UInt8), esc (a ++ b) = esc a ++ esc b
  | [], b => rfl
  | c :: r, b => by
    show (if c = 34 ∨ c = 92 then 92 :: c :: esc (r ++ b) else c :: esc (r ++ b)) = _
    rw [esc_app r b]
    by_cases h : c = 34 ∨ c = 92
    · rw [if_pos h, esc, if_pos h]; rfl
    · rw [if_neg h, esc, if_neg h]; rfl
theorem esc_len : ∀ l : List UInt8, (esc l).length ≤ 2 * l.length
  | [] => Nat.le_refl _
  | c :: r => by
    have := esc_len r
    unfold esc
    split <;> simp only [List.length_cons] <;> omega
def quo (l : List UInt8) : List UInt8 := 34 :: (esc l ++ [34])
set_option maxHeartbeats 4000000 in
theorem ok41 (s : ByteArray) (hs : s.size ≤ 1000000) : Go.Am.Pure Tryd.prog 41 [.d (sD s)] (.d (sD (txt (quo s.data.toList)))) := by
  refine CallOk.of tysOk mixed od41 Tryd.func41 rfl rfl code41 ?_
  have hsz : s.data.toList.length = s.size := by rw [Array.length_toList]; rfl
  refine W.alt_r ?_
  refine W.need rfl ?_
  refine W.loop (fun k fr σ => ∃ i : Nat, fr = [(0, .d (sD s)), (8, .d (.sl s.size (b8s s.data.toList))), (9, .d (nI s.size)), (10, .d (nI i)), (3, .vec 0 (34 :: esc (s.data.toList.take i)).length)] ∧ σ = [.vec 1 (34 :: esc (s.data.toList.take i)).length (b8s (34 :: esc (s.data.toList.take i)))] ∧ i ≤ s.size ∧ k = s.size - i) s.size
    (Start.of [0, 8, 9, 10, 3] [] (by simp)) ⟨0, rfl, rfl, by omega, rfl⟩ ?_
  rintro k fr σ ⟨i, rfl, rfl, hi, rfl⟩
  have hL := esc_len (s.data.toList.take i)
  rw [List.length_take] at hL
  refine W.ite (fun c1 => ?_) (fun c1 => ?_)
  · have hil : i < s.size := by have := of_decide_eq_true c1; omega
    obtain ⟨b, hb⟩ : ∃ b, s.data.toList[i]? = some b := ⟨_, List.getElem?_eq_getElem (by omega)⟩
    have g1 : IntKind.i64.wrap ((i : Int) + 1) = ((i + 1 : Nat) : Int) := by rw [wrap64 (by omega) (by omega)]; rfl
    have hix : (0 : Int) ≤ (i : Int) ∧ (i : Int) < (s.size : Int) ∧ b8s s.data.toList ≠ [] := ⟨by omega, by omega, fun e => by
      have h0 := congrArg List.length e
      rw [b8s_len] at h0
      have h1 : s.data.toList.length = 0 := h0
      omega⟩
    have ht : s.data.toList.take (i + 1) = s.data.toList.take i ++ [b] := take_next2 hb
    refine W.need hix ?_
    refine W.ld (b8E hb) ?_
    have e34 := u8int b 34 (by decide)
    have e92 := u8int b 92 (by decide)
    have hEl : (34 :: esc (s.data.toList.take i)).length ≤ 2 * s.size + 1 := by simp only [List.length_cons]; omega
    rw [show ((34 : Nat) : Int) = 34 from rfl] at e34
    rw [show ((92 : Nat) : Int) = 92 from rfl] at e92
    have hone : ∀ x : UInt8, ∀ c ∈ [b8 x], c.one = true := fun x c hc => by obtain rfl := List.mem_singleton.1 hc; rfl
    by_cases h34 : b = 34
    · have d1 : ((b.toNat : Int) == 34) = true := by rw [e34]; exact beq_iff_eq.2 h34
      have hfin : 34 :: esc (s.data.toList.take (i + 1)) = ((34 :: esc (s.data.toList.take i)) ++ [92]) ++ [b] := by rw [ht, esc_app, esc, if_pos (.inl h34)]; simp [esc]
      repeat (first | refine W.ite_t rfl ?_ | refine W.ite_f rfl ?_ | refine W.ite_t d1 ?_)
      refine W.alt_l ?_
      refine W.need ⟨rfl, rfl, rfl, by omega, by omega, hone 92⟩ ?_
      refine W.alt_l ?_
      refine W.need ⟨rfl, rfl, rfl, by omega, by omega, hone b⟩ ?_
      refine W.ret ⟨_, _, _, ?_, Trim.of [0, 8, 9, 10, 3] [0] (by decide) (by simp) (by simp), i + 1, ?_, ?_, by omega, rfl⟩
      · omega
      · rw [hfin, ← g1]; rw [List.length_append, List.length_append]; rfl
      · rw [hfin, b8s_app, b8s_app, List.length_append, List.length_append]; rfl
    · have d1 : ((b.toNat : Int) == 34) = false := by rw [e34]; exact beq_eq_false_iff_ne.2 h34
      by_cases h92 : b = 92
      · have d2 : ((b.toNat : Int) == 92) = true := by rw [e92]; exact beq_iff_eq.2 h92
        have hfin : 34 :: esc (s.data.toList.take (i + 1)) = ((34 :: esc (s.data.toList.take i)) ++ [92]) ++ [b] := by rw [ht, esc_app, esc, if_pos (.inr h92)]; simp [esc]
        repeat (first | refine W.ite_t rfl ?_ | refine W.ite_f rfl ?_ | refine W.ite_f d1 ?_ | refine W.ite_t d2 ?_)
        refine W.alt_l ?_
        refine W.need ⟨rfl, rfl, rfl, by omega, by omega, hone 92⟩ ?_
        refine W.alt_l ?_
        refine W.need ⟨rfl, rfl, rfl, by omega, by omega, hone b⟩ ?_
        refine W.ret ⟨_, _, _, ?_, Trim.of [0, 8, 9, 10, 3] [0] (by decide) (by simp) (by simp), i + 1, ?_, ?_, by omega, rfl⟩
        · omega
        · rw [hfin, ← g1]; rw [List.length_append, List.length_append]; rfl
        · rw [hfin, b8s_app, b8s_app, List.length_append, List.length_append]; rfl
      · have d2 : ((b.toNat : Int) == 92) = false := by rw [e92]; exact beq_eq_false_iff_ne.2 h92
        have hfin : 34 :: esc (s.data.toList.take (i + 1)) = (34 :: esc (s.data.toList.take i)) ++ [b] := by
          rw [ht, esc_app, esc, if_neg (by rintro (h | h); exact h34 h; exact h92 h)]; simp [esc]
        repeat (first | refine W.ite_t rfl ?_ | refine W.ite_f rfl ?_ | refine W.ite_f d1 ?_ | refine W.ite_f d2 ?_)
        refine W.alt_l ?_
        refine W.need ⟨rfl, rfl, rfl, by omega, by omega, hone b⟩ ?_
        refine W.ret ⟨_, _, _, ?_, Trim.of [0, 8, 9, 10, 3] [0] (by decide) (by simp) (by simp), i + 1, ?_, ?_, by omega, rfl⟩
        · omega
        · rw [hfin, ← g1]; rw [List.length_append]; rfl
        · rw [hfin, b8s_app, List.length_append]; rfl
  · have hil : i = s.size := by have := of_decide_eq_false c1; omega
    rw [hil, List.take_of_length_le (by omega)]
    have hL2 := esc_len s.data.toList
    refine W.ret ?_
    refine W.alt_l ?_
    refine W.need ⟨rfl, rfl, rfl, by simp only [List.length_cons]; omega, by simp only [List.length_cons]; omega, fun c hc => by obtain rfl := List.mem_singleton.1 hc; rfl⟩ ?_
    have hq : b8s (34 :: esc s.data.toList) ++ [b8 34] = b8s (quo s.data.toList) := by
      show _ = b8s ((34 :: esc s.data.toList) ++ [34])
      rw [b8s_app]; rfl
    have hb := b8s_byte (quo s.data.toList)
    have hl2 := b8s_len (quo s.data.toList)
    rw [← hq] at hb hl2
    have hq3 : (quo s.data.toList).length = (34 :: esc s.data.toList).length + 1 := by
      show ((34 :: esc s.data.toList) ++ [34]).length = _
      rw [List.length_append]; rfl
    have hl3 : (b8s (34 :: esc s.data.toList) ++ [b8 34]).length = (34 :: esc s.data.toList).length + 1 := by rw [hl2, hq3]
    have ht3 : (b8s (34 :: esc s.data.toList) ++ [b8 34]).take (((34 :: esc s.data.toList).length + 1) * 1) = b8s (34 :: esc s.data.toList) ++ [b8 34] := List.take_of_length_le (by rw [hl3]; omega)
    refine W.need ?_ ?_
    · exact ⟨rfl, (congrArg List.length ht3).trans hl3, fun c hc => hb c ((congrArg (fun l => c ∈ l) ht3).mp hc)⟩
    refine W.ret (RetQ.pure rfl (ret_sD' ?_))
    exact (congrArg bytesOf (ht3.trans hq)).trans (b8s_text _)
end Go.Proofs.YtddhlmejaobcgaaDoor.Va

set_option maxRecDepth 100000
set_option linter.unusedVariables false
set_option linter.unusedSimpArgs false
/- The parser of filters: texts between quotes. -/
namespace Go.Proofs.YtddhlmejaobcgaaDoor.Va
open Go Go.Am
def od48 : Ords := [(4, [0, 1, 2, 3, 4, 5, 6, 7, 8, 9]), (6, [0, 1, 2, 3, 4, 5, 6, 7, 8, 9]), (13, [0, 1, 2, 3, 4, 5, 6, 7, 8, 9, 10, 11, 12, 13, 14, 15, 16, 17, 18, 19, 20, 21, 22, 23, 24, 25, 26, 27, 28, 29, 30, 31, 32, 33]), (15, [0, 1, 2, 3, 4, 5, 6, 7, 8, 9])]
theorem code48 : codeB Tryd.f48.ntmps od48 (match Tryd.f48.body with | some c => c | none => .skip) = true := by kernel_rfl
def prn (c : UInt8) : Prop := 32 ≤ c.toNat ∧ c.toNat ≤ 126
theorem pk2 : ∀ i, i < 2 → [0, 1][i]? = some i := by
  intro j hj; have : j = 0 ∨ j = 1 := (by omega); rcases this with rfl | rfl <;> rfl
set_option maxHeartbeats 8000000 in
theorem ok48 (s : ByteArray) (n : Nat) {a : Nat} {t r : List UInt8} (h : At s a (List.replicate n 32 ++ (quo t ++ r))) (ht : ∀ c ∈ t, prn c) (hs : s.size ≤ 1000000) (htl : t.length ≤ 1000000) :
    CallOk Tryd.prog 48 [.ptr 0 0] (pS s a (-1)) (fun v σ => v = .d (sD (txt t)) ∧ σ = pS s ((a + n + (quo t).length : Nat) : Int) (-1)) := by
  refine CallOk.of tysOk mixed od48 Tryd.func48 rfl rfl code48 ?_
  have h' : At s a (List.replicate n 32 ++ ([34] ++ (esc t ++ 34 :: r))) := by
    have e : quo t ++ r = [34] ++ (esc t ++ 34 :: r) := by simp [quo]
    rwa [e] at h
  have hm := ok47 s n h' (show (34 : UInt8) ≠ 32 by decide) hs
  refine W.callF [0] _ hm (by decide) rfl rfl rfl rfl rfl rfl ?_
  have hA0 := At.app _ (At.app _ h')
  rw [List.length_replicate, List.length_singleton] at hA0
  have hq : a + n + (quo t).length = a + n + 1 + (esc t).length + 1 := by simp only [quo, List.length_cons, List.length_append, List.length_nil]; omega
  rw [hq]
  show W Tryd.prog _ _
  generalize hf : a + n + 1 = f at *
  refine W.loop (fun k fr σ => ∃ j : Nat, fr = [(0, .ptr 0 0), (3, .vec 1 j)] ∧ σ = pS s ((f + (esc (t.take j)).length : Nat) : Int) (-1) ++ [.vec 1 j (b8s (t.take j))] ∧ j ≤ t.length ∧ At s (f + (esc (t.take j)).length) (esc (t.drop j) ++ 34 :: r) ∧ k = t.length - j) t.length
    (Start.of [0] [(3, 1)] (by intro p hp; obtain rfl := List.mem_singleton.1 hp; rfl)) ⟨0, rfl, ?ST, by omega, hA0, rfl⟩ ?_
  case ST => rw [← hf]; rfl
  rintro k fr σ ⟨j, rfl, rfl, hj, hA, rfl⟩
  have hcells : ∀ {j : Nat}, (b8s (t.take j)).take ((t.take j).length * 1) = b8s (t.take j) := fun {j} => List.take_of_length_le (by rw [b8s_len]; omega)
  have hjl : (t.take j).length = j := by rw [List.length_take]; omega
  have hjm : j ≤ 1000000 := by omega
  by_cases hjn : j < t.length
  · obtain ⟨b, hb⟩ : ∃ b, t[j]? = some b := ⟨_, List.getElem?_eq_getElem hjn⟩
    have hbp := ht b (List.mem_of_getElem? hb)
    unfold prn at hbp
    have hnext : t.take (j + 1) = t.take j ++ [b] := take_next2 hb
    rw [drop_cons2 hb, esc] at hA
    have hle : (esc (t.take (j + 1))).length = (esc (t.take j)).length + (if b = 34 ∨ b = 92 then 2 else 1) := by
      rw [hnext, esc_app, esc, List.length_append]; split <;> rfl
    generalize hp : f + (esc (t.take j)).length = p at *
    by_cases hesc : b = 34 ∨ b = 92
    · rw [if_pos hesc] at hA hle
      obtain ⟨h1, h2, h3⟩ := At.cons (show At s p (92 :: (b :: (esc (t.drop (j + 1)) ++ 34 :: r))) from hA)
      obtain ⟨q1, q2, q3⟩ := h3.cons
      have g1 : IntKind.i64.wrap ((p : Int) + 1) = ((p + 1 : Nat) : Int) := by rw [wrap64 (by omega) (by omega)]; omega
      have g2 : IntKind.i64.wrap (IntKind.i64.wrap ((p : Int) + 1) + 1) = ((p + 2 : Nat) : Int) := by rw [g1, wrap64 (by omega) (by omega)]; omega
      have c1 : decide ((p : Int) ≥ (s.size : Int)) = false := decide_eq_false (by omega)
      have c2 : decide (IntKind.i64.wrap ((p : Int) + 1) ≥ (s.size : Int)) = false := by rw [g1]; exact decide_eq_false (by omega)
      have d34 : (((s.data.getD p 0).toNat : Int) == 34) = false := by rw [h2]; rfl
      have d92 : (((s.data.getD p 0).toNat : Int) == 92) = true := by rw [h2]; rfl
      have hone : ∀ c ∈ [D.lit (.int .u8 ((s.data.getD (IntKind.i64.wrap ((p : Int) + 1)).toNat 0).toNat : Int))], c.one = true := fun c hc => by obtain rfl := List.mem_singleton.1 hc; rfl
      have hraw : s.data.getD (IntKind.i64.wrap ((p : Int) + 1)).toNat 0 = b := by rw [g1, Int.toNat_natCast]; exact q2
      have d34' : b = 34 → (((s.data.getD (IntKind.i64.wrap ((p : Int) + 1)).toNat 0).toNat : Int) != 34) = false := fun e => by rw [hraw, e]; rfl
      have d34n : b = 92 → (((s.data.getD (IntKind.i64.wrap ((p : Int) + 1)).toNat 0).toNat : Int) != 34) = true := fun e => by rw [hraw, e]; rfl
      have d92' : b = 92 → (((s.data.getD (IntKind.i64.wrap ((p : Int) + 1)).toNat 0).toNat : Int) != 92) = false := fun e => by rw [hraw, e]; rfl
      have n1 : (0 : Int) ≤ IntKind.i64.wrap ((p : Int) + 1) ∧ IntKind.i64.wrap ((p : Int) + 1) < (s.size : Int) := by rw [g1]; exact ⟨by omega, by omega⟩
      rcases hesc with he | he
      · have e34 := d34' he
        repeat (first | refine W.ite_t rfl ?_ | refine W.ite_f rfl ?_ | refine W.ite_f c1 ?_ | refine W.ite_f c2 ?_ | refine W.ite_f d34 ?_ | refine W.ite_t d92 ?_ | refine W.ite_f e34 ?_ | refine W.need ⟨by omega, by omega⟩ ?_ | refine W.need n1 ?_)
        refine W.alt_l ?_
        refine W.need ⟨rfl, rfl, rfl, by omega, by omega, hone⟩ ?_
        refine W.ret ⟨_, _, _, ?_, Trim.of [0, 3] [0, 1] (by decide) (by show ∀ i ∈ [0, 1], i < 2; simp) (fun i hi => pk2 i (by have : i < 1 := hi; omega)), j + 1, ?_, ?_, by omega, ?_, rfl⟩
        · omega
        · rfl
        · rw [hle, show f + ((esc (t.take j)).length + 2) = p + 2 by omega, ← g2, hnext, b8s_app, ← hraw]; rfl
        · rw [hle, show f + ((esc (t.take j)).length + 2) = p + 2 by omega]; exact q3
      · have e34 := d34n he
        have e92 := d92' he
        repeat (first | refine W.ite_t rfl ?_ | refine W.ite_f rfl ?_ | refine W.ite_f c1 ?_ | refine W.ite_f c2 ?_ | refine W.ite_f d34 ?_ | refine W.ite_t d92 ?_ | refine W.ite_t e34 ?_ | refine W.ite_f e92 ?_ | refine W.need ⟨by omega, by omega⟩ ?_ | refine W.need n1 ?_)
        refine W.alt_l ?_
        refine W.need ⟨rfl, rfl, rfl, by omega, by omega, hone⟩ ?_
        refine W.ret ⟨_, _, _, ?_, Trim.of [0, 3] [0, 1] (by decide) (by show ∀ i ∈ [0, 1], i < 2; simp) (fun i hi => pk2 i (by have : i < 1 := hi; omega)), j + 1, ?_, ?_, by omega, ?_, rfl⟩
        · omega
        · rfl
        · rw [hle, show f + ((esc (t.take j)).length + 2) = p + 2 by omega, ← g2, hnext, b8s_app, ← hraw]; rfl
        · rw [hle, show f + ((esc (t.take j)).length + 2) = p + 2 by omega]; exact q3
    · rw [if_neg hesc] at hA hle
      obtain ⟨h1, h2, h3⟩ := At.cons (show At s p (b :: (esc (t.drop (j + 1)) ++ 34 :: r)) from hA)
      have g1 : IntKind.i64.wrap ((p : Int) + 1) = ((p + 1 : Nat) : Int) := by rw [wrap64 (by omega) (by omega)]; omega
      have c1 : decide ((p : Int) ≥ (s.size : Int)) = false := decide_eq_false (by omega)
      have d34 : (((s.data.getD p 0).toNat : Int) == 34) = false := by
        rw [h2]; exact (u8int b 34 (by decide)).trans (beq_eq_false_iff_ne.2 fun e => hesc (.inl e))
      have d92 : (((s.data.getD p 0).toNat : Int) == 92) = false := by
        rw [h2]; exact (u8int b 92 (by decide)).trans (beq_eq_false_iff_ne.2 fun e => hesc (.inr e))
      have l1 : decide (((s.data.getD p 0).toNat : Int) ≥ 32) = true := by rw [h2]; exact decide_eq_true (by omega)
      have l2 : decide (((s.data.getD p 0).toNat : Int) ≤ 126) = true := by rw [h2]; exact decide_eq_true (by omega)
      have hone : ∀ c ∈ [D.lit (.int .u8 ((s.data.getD p 0).toNat : Int))], c.one = true := fun c hc => by obtain rfl := List.mem_singleton.1 hc; rfl
      refine W.ite_t rfl ?_
      refine W.ite_f c1 ?_
      refine W.need ⟨by omega, by omega⟩ ?_
      refine W.ite_f d34 ?_
      refine W.ite_f d92 ?_
      refine W.ite_t l1 ?_
      refine W.ite_t l1 ?_
      refine W.ite_t l1 ?_
      show W _ (codeR tys od48 (Code.cond (Operand.tmp 43) _ _) ((43, AV.d (.lit (.bool (decide (((s.data.getD p 0).toNat : Int) ≤ 126))))) :: _) _ _) _
      rw [l2]
      refine ⟨?_⟩
      show Res.wp _ (codeR tys od48 (Code.exit 5) _ _ _) _
      refine (?_ : W Tryd.prog _ _).out
      refine W.alt_l ?_
      refine W.need ⟨rfl, rfl, rfl, by omega, by omega, hone⟩ ?_
      refine W.ret ⟨_, _, _, ?_, Trim.of [0, 3] [0, 1] (by decide) (by show ∀ i ∈ [0, 1], i < 2; simp) (fun i hi => pk2 i (by have : i < 1 := hi; omega)), j + 1, ?_, ?_, by omega, ?_, rfl⟩
      · omega
      · rfl
      · rw [hle, show f + ((esc (t.take j)).length + 1) = p + 1 by omega, ← g1, hnext, b8s_app, ← h2]; rfl
      · rw [hle, show f + ((esc (t.take j)).length + 1) = p + 1 by omega]; exact h3
  · obtain rfl : j = t.length := by omega
    rw [List.drop_length] at hA
    rw [List.take_length] at hA ⊢
    generalize hp : f + (esc t).length = p at *
    obtain ⟨h1, h2, h3⟩ := At.cons (show At s p (34 :: r) from hA)
    have g1 : IntKind.i64.wrap ((p : Int) + 1) = ((p + 1 : Nat) : Int) := by rw [wrap64 (by omega) (by omega)]; omega
    have c1 : decide ((p : Int) ≥ (s.size : Int)) = false := decide_eq_false (by omega)
    have d34 : (((s.data.getD p 0).toNat : Int) == 34) = true := by rw [h2]; rfl
    have ht3 : (b8s t).take (t.length * 1) = b8s t := List.take_of_length_le (by rw [b8s_len]; omega)
    repeat (first | refine W.ite_t rfl ?_ | refine W.ite_f rfl ?_ | refine W.ite_f c1 ?_ | refine W.ite_t d34 ?_ | refine W.need ⟨by omega, by omega⟩ ?_)
    refine W.need ⟨rfl, (congrArg List.length ht3).trans (b8s_len t), fun c hc => b8s_byte t c ((congrArg (fun l => c ∈ l) ht3).mp hc)⟩ ?_
    refine W.ret (W.ret (RetQ.part [0] (by decide) (by show ∀ i ∈ [0], i < 2; simp) pk1 ⟨?_, ?_⟩))
    · exact congrArg (fun x => AV.d (sD x)) ((congrArg bytesOf ht3).trans (b8s_text t))
    · rw [← g1]; rfl
end Go.Proofs.YtddhlmejaobcgaaDoor.Va
