import Derived.Test.YtddhlmejaobcgaaWCc
set_option maxRecDepth 100000
set_option linter.unusedVariables false
set_option linter.unusedSimpArgs false
/- Walks: send, Idle, Cut. -/
namespace Go.Proofs.Ytddhlmejaobcgaa.Lk
open Go Go.Am Co
def od10 : Ords := []
theorem code10 : codeB Try.f10.ntmps od10 (match Try.f10.body with | some c => c | none => .skip) = true := by kernel_rfl
def od14 : Ords := []
theorem code14 : codeB Try.f14.ntmps od14 (match Try.f14.body with | some c => c | none => .skip) = true := by kernel_rfl
theorem okA6 (l mm : Lk) : CallOk Try.prog 6 [.ptr 0 0] (prA l mm) (fun v σ => v = bI (decide (l.q = []) && !l.o) ∧ σ = prA l mm) := by
  refine CallOk.of tysOk mixed od6 Try.func6 rfl rfl code6 ?_
  obtain ⟨q, a, c, o⟩ := l
  cases q with
  | nil =>
    repeat (first | refine W.ite_t rfl ?_ | refine W.ite_f rfl ?_)
    exact W.ret (RetQ.all ⟨rfl, rfl⟩)
  | cons s r =>
    repeat (first | refine W.ite_t rfl ?_ | refine W.ite_f rfl ?_)
    exact W.ret (RetQ.all ⟨by simp; rfl, rfl⟩)
theorem okB6 (l mm : Lk) : CallOk Try.prog 6 [.ptr 0 4] (prB l mm) (fun v σ => v = bI (decide (l.q = []) && !l.o) ∧ σ = prB l mm) := by
  refine CallOk.of tysOk mixed od6 Try.func6 rfl rfl code6 ?_
  obtain ⟨q, a, c, o⟩ := l
  cases q with
  | nil =>
    repeat (first | refine W.ite_t rfl ?_ | refine W.ite_f rfl ?_)
    exact W.ret (RetQ.all ⟨rfl, rfl⟩)
  | cons s r =>
    repeat (first | refine W.ite_t rfl ?_ | refine W.ite_f rfl ?_)
    exact W.ret (RetQ.all ⟨by simp; rfl, rfl⟩)
/-- The bag and both ends. -/
abbrev s3 (b : Bg.B) (E F : Lk) : Store := [Bg.rowS b.e b.l b.j, .var [.d (nI b.n), .row 0 b.e 0 b.l.length], .var (lkC E ++ lkC F)]
theorem keep3 : ∀ i, i < 3 → [0, 1, 2][i]? = some i := by
  intro j hj; have : j = 0 ∨ j = 1 ∨ j = 2 := (by omega); rcases this with rfl | rfl | rfl <;> rfl
theorem lbl_next {f t : Int} {x : ByteArray} : ∀ {l : List ByteArray} {i : Nat} (n : Int), l[i]? = some x → lbl f t n (l.take (i + 1)) = lbl f t n (l.take i) ++ [⟨n + i + 1, f, t, x⟩]
  | y :: r, 0, n, h => by
    obtain rfl : y = x := by simpa using h
    show [(⟨n + 1, f, t, y⟩ : Pk)] = [⟨n + (0 : Nat) + 1, f, t, y⟩]
    rw [show n + ((0 : Nat) : Int) + 1 = n + 1 by omega]
  | y :: r, i + 1, n, h => by
    show _ :: lbl f t (n + 1) (r.take (i + 1)) = _ :: (lbl f t (n + 1) (r.take i) ++ _)
    rw [lbl_next (n + 1) (by simpa using h)]
    congr 3
    rw [show n + 1 + (i : Int) + 1 = n + ((i + 1 : Nat) : Int) + 1 by omega]
theorem pks_size {c : Nat} (hc : c ≤ 1000000) {l : List ByteArray} {a : Nat} (ha : a + l.length ≤ 2000000) (h : ∀ s ∈ l, s.size ≤ 1970) : ∀ x ∈ pks c a l, x.size ≤ 2000 := fun x hx => by
  obtain ⟨k, s, h1, h2⟩ := pks_mem c l a hx
  have h3 := h s (List.mem_of_getElem? h1)
  have h4 := (List.getElem?_eq_some_iff.1 h1).1
  have := pk_size (n := ((a + k : Nat) : Int)) (c := (c : Int)) (s := s) ⟨by omega, by omega⟩ ⟨by omega, by omega⟩ (by omega)
  rw [h2]; omega
theorem packets_size {l : Lk} (h : l.ok) : ∀ x ∈ packets l, x.size ≤ 2000 := fun x hx => by
  obtain ⟨h1, h2, h3, h4⟩ := h
  unfold Lk.packets at hx
  split at hx
  · split at hx
    · rw [List.mem_singleton.1 hx]
      have := pk_size (n := -1) (c := (l.c : Int)) (s := mt) ⟨by omega, by omega⟩ ⟨by omega, by omega⟩ (by decide)
      have e : mt.size = 0 := rfl
      omega
    · cases hx
  · exact pks_size h4 (by rw [List.length_take]; omega) (fun s hs => h2 s (List.mem_of_mem_take hs)) x hx
/-- The inner loop's store. -/
abbrev sx (b : Bg.B) (f t : Int) (L : List ByteArray) (i : Nat) (e : Nat) (j : List D) (E F : Lk) : Store := s3 ⟨b.n + i, b.l ++ lbl f t b.n (L.take i), e, j⟩ E F
set_option maxHeartbeats 4000000 in
theorem ok10 (b : Bg.B) (E F : Lk) (hE : E.ok) (hF : F.ok) (hb : b.l.length ≤ 3900) (hn : 0 ≤ b.n ∧ b.n ≤ 900000000) :
    CallOk Try.prog 10 [.ptr 1 0, .ptr 2 0] (s3 b E F) (fun v s => v = .tuple [] ∧ ∃ e j, s = s3 ⟨b.n + (packets E).length + (packets F).length, b.l ++ lbl 0 1 b.n (packets E) ++ lbl 1 0 (b.n + (packets E).length) (packets F), e, j⟩ { E with o := false } { F with o := false }) := by
  refine CallOk.of tysOk mixed od10 Try.func10 rfl rfl code10 ?_
  have pE := packets8 E
  have pF := packets8 F
  have zE := packets_size hE
  have zF := packets_size hF
  refine W.loop (fun k fr σ => (k = 2 ∧ fr = [(0, .ptr 1 0), (1, .ptr 2 0), (7, .d (nI 0))] ∧ σ = s3 b E F)
      ∨ (k = 1 ∧ fr = [(0, .ptr 1 0), (1, .ptr 2 0), (7, .d (nI 1))] ∧ ∃ e j, σ = s3 ⟨b.n + (packets E).length, b.l ++ lbl 0 1 b.n (packets E), e, j⟩ { E with o := false } F)
      ∨ (k = 0 ∧ fr = [(0, .ptr 1 0), (1, .ptr 2 0), (7, .d (nI 2))] ∧ ∃ e j, σ = s3 ⟨b.n + (packets E).length + (packets F).length, b.l ++ lbl 0 1 b.n (packets E) ++ lbl 1 0 (b.n + (packets E).length) (packets F), e, j⟩ { E with o := false } { F with o := false })) 2
    (Start.of [0, 1, 7] [] (by simp)) (.inl ⟨rfl, rfl, rfl⟩) ?_
  rintro k fr σ (⟨rfl, rfl, rfl⟩ | ⟨rfl, rfl, e, j, rfl⟩ | ⟨rfl, rfl, e, j, rfl⟩)
  · refine W.ite_t rfl ?_
    refine W.need (by decide) ?_
    have kp := okA35 E F hE
    generalize packets E = L at *
    refine W.callT [2] kp (by decide) rfl rfl rfl rfl ?_
    rintro v σ ⟨rfl, rfl⟩
    refine W.loop (fun k fr σ => ∃ (i e : Nat) (j : List D), fr = [(0, .ptr 1 0), (1, .ptr 2 0), (4, .d (nI 0)), (7, .d (nI 0)), (14, slS L), (15, .d (nI L.length)), (16, .d (nI i))] ∧ σ = sx b 0 1 L i e j { E with o := false } F ∧ i ≤ L.length ∧ k = L.length - i) L.length
      (Start.of [0, 1, 4, 7, 14, 15, 16] [] (by simp)) ⟨0, b.e, b.j, rfl, by simp [sx, lbl]; rfl, by omega, rfl⟩ ?_
    rintro k fr σ ⟨i, e, j, rfl, rfl, hi, rfl⟩
    refine W.ite (fun c1 => ?_) (fun c1 => ?_)
    · have hil : i < L.length := by have := of_decide_eq_true c1; omega
      obtain ⟨x, hx⟩ : ∃ x, L[i]? = some x := ⟨_, List.getElem?_eq_getElem hil⟩
      have g1 : IntKind.i64.wrap ((i : Int) + 1) = ((i + 1 : Nat) : Int) := by rw [wrap64 (by omega) (by omega)]; rfl
      have hlen : (b.l ++ lbl 0 1 b.n (L.take i)).length < 4000 := by rw [List.length_append, lbl_len, List.length_take]; omega
      refine W.need (ix_ok sC_len (by decide) hil) ?_
      refine W.ld (sE hx) ?_
      refine W.callT [0, 1] (Bg.ok8S ⟨b.n + i, b.l ++ lbl 0 1 b.n (L.take i), e, j⟩ 0 1 x (zE x (List.mem_of_getElem? hx)) hlen ⟨by show 0 ≤ b.n + (i : Int); omega, by show b.n + (i : Int) ≤ 1000000000; omega⟩) (by decide) rfl rfl rfl rfl ?_
      rintro v s ⟨rfl, e', j', rfl⟩
      refine W.ret ⟨_, _, _, ?_, Trim.of [0, 1, 4, 7, 14, 15, 16] [0, 1, 2] (by decide) (by show ∀ i ∈ [0, 1, 2], i < 3; simp) keep3, i + 1, e', j', ?_, ?_, by omega, rfl⟩
      · omega
      · rw [← g1]; rfl
      · show _ = sx b 0 1 L (i + 1) e' j' _ F
        unfold sx
        rw [lbl_next b.n hx, ← List.append_assoc, show b.n + ((i + 1 : Nat) : Int) = b.n + (i : Int) + 1 by omega]
        rfl
    · have hil : i = L.length := by have := of_decide_eq_false c1; omega
      subst hil
      refine W.ret ?_
      refine W.ret ⟨_, _, _, ?_, Trim.of [0, 1, 7] [0, 1, 2] (by decide) (by show ∀ i ∈ [0, 1, 2], i < 3; simp) keep3, .inr (.inl ⟨rfl, rfl, e, j, ?_⟩)⟩
      · decide
      · have hh : sx b 0 1 L L.length e j { E with o := false } F = s3 ⟨b.n + L.length, b.l ++ lbl 0 1 b.n L, e, j⟩ { E with o := false } F := by unfold sx; rw [List.take_length]
        exact hh
  · refine W.ite_t rfl ?_
    refine W.need (by decide) ?_
    have kp := okB35 F { E with o := false } hF
    generalize packets F = L at *
    generalize packets E = L0 at *
    generalize hB : (⟨b.n + L0.length, b.l ++ lbl 0 1 b.n L0, e, j⟩ : Bg.B) = b1
    have hb1 : b1.l.length ≤ 3908 := by rw [← hB]; show (b.l ++ lbl 0 1 b.n L0).length ≤ _; rw [List.length_append, lbl_len]; omega
    have hn1 : b1.n = b.n + L0.length := by rw [← hB]
    have hl1 : b1.l = b.l ++ lbl 0 1 b.n L0 := by rw [← hB]
    refine W.callT [2] kp (by decide) rfl rfl rfl rfl ?_
    rintro v σ ⟨rfl, rfl⟩
    refine W.loop (fun k fr σ => ∃ (i e : Nat) (j : List D), fr = [(0, .ptr 1 0), (1, .ptr 2 0), (4, .d (nI 1)), (7, .d (nI 1)), (14, slS L), (15, .d (nI L.length)), (16, .d (nI i))] ∧ σ = sx b1 1 0 L i e j { E with o := false } { F with o := false } ∧ i ≤ L.length ∧ k = L.length - i) L.length
      (Start.of [0, 1, 4, 7, 14, 15, 16] [] (by simp)) ⟨0, b1.e, b1.j, rfl, by simp [sx, lbl]; rfl, by omega, rfl⟩ ?_
    rintro k fr σ ⟨i, e, j, rfl, rfl, hi, rfl⟩
    refine W.ite (fun c1 => ?_) (fun c1 => ?_)
    · have hil : i < L.length := by have := of_decide_eq_true c1; omega
      obtain ⟨x, hx⟩ : ∃ x, L[i]? = some x := ⟨_, List.getElem?_eq_getElem hil⟩
      have g1 : IntKind.i64.wrap ((i : Int) + 1) = ((i + 1 : Nat) : Int) := by rw [wrap64 (by omega) (by omega)]; rfl
      have hlen : (b1.l ++ lbl 1 0 b1.n (L.take i)).length < 4000 := by rw [List.length_append, lbl_len, List.length_take]; omega
      refine W.need (ix_ok sC_len (by decide) hil) ?_
      refine W.ld (sE hx) ?_
      refine W.callT [0, 1] (Bg.ok8S ⟨b1.n + i, b1.l ++ lbl 1 0 b1.n (L.take i), e, j⟩ 1 0 x (zF x (List.mem_of_getElem? hx)) hlen ⟨by show 0 ≤ b1.n + (i : Int); omega, by show b1.n + (i : Int) ≤ 1000000000; omega⟩) (by decide) rfl rfl rfl rfl ?_
      rintro v s ⟨rfl, e', j', rfl⟩
      refine W.ret ⟨_, _, _, ?_, Trim.of [0, 1, 4, 7, 14, 15, 16] [0, 1, 2] (by decide) (by show ∀ i ∈ [0, 1, 2], i < 3; simp) keep3, i + 1, e', j', ?_, ?_, by omega, rfl⟩
      · omega
      · rw [← g1]; rfl
      · show _ = sx b1 1 0 L (i + 1) e' j' _ _
        unfold sx
        rw [lbl_next b1.n hx, ← List.append_assoc, show b1.n + ((i + 1 : Nat) : Int) = b1.n + (i : Int) + 1 by omega]
        rfl
    · have hil : i = L.length := by have := of_decide_eq_false c1; omega
      subst hil
      refine W.ret ?_
      refine W.ret ⟨_, _, _, ?_, Trim.of [0, 1, 7] [0, 1, 2] (by decide) (by show ∀ i ∈ [0, 1, 2], i < 3; simp) keep3, .inr (.inr ⟨rfl, rfl, e, j, ?_⟩)⟩
      · decide
      · have hh : sx b1 1 0 L L.length e j { E with o := false } { F with o := false } = s3 ⟨b1.n + L.length, b1.l ++ lbl 1 0 b1.n L, e, j⟩ { E with o := false } { F with o := false } := by unfold sx; rw [List.take_length]
        rw [hn1, hl1] at hh
        exact hh
  · refine W.ite_f rfl ?_
    exact W.ret (W.ret (RetQ.part [0, 1, 2] (by decide) (by show ∀ i ∈ [0, 1, 2], i < 3; simp) keep3 ⟨rfl, e, j, rfl⟩))
end Go.Proofs.Ytddhlmejaobcgaa.Lk
