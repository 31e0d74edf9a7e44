import Derived.Test.YtgbhfnbehmlohaaDoorCX
set_option maxRecDepth 100000
set_option linter.unusedVariables false
set_option linter.unusedSimpArgs false
namespace Go.Proofs.YtgbhfnbehmlohaaDoor.Co
open Go Go.Am
def od6 : Ords := []
theorem code6 : codeB Tryd.f6.ntmps od6 (match Tryd.f6.body with | some c => c | none => .skip) = true := by kernel_rfl
theorem num_code (s : ByteArray) : ∀ (f i a acc : Nat) {n a' : Nat} {x : Nat × Int}, num s f i a acc = (n, a', some x) → (x.2 = 10 ∨ x.2 = 11)
  | 0, i, a, acc, n, a', x, h => by simp [num] at h
  | f + 1, i, a, acc, n, a', x, h => by
    rw [num] at h
    split at h
    · simp only [Prod.mk.injEq, Option.some.injEq] at h
      rw [← h.2.2]; exact .inl rfl
    · split at h
      · simp only [Prod.mk.injEq, Option.some.injEq] at h
        rw [← h.2.2]; exact .inr rfl
      · split at h
        · simp at h
        · exact num_code s f _ _ _ h
theorem num_pos {s : ByteArray} {a n a' : Nat} (h : readN s a none = (n, a', none)) (ha : a ≤ s.size) : a < a' ∧ a' ≤ s.size := by
  obtain ⟨m, _, hd, _, hl⟩ := num_dec s 10 0 a 0 n a' rfl (by decide) h
  have h1 := List.length_pos_iff.2 (enc_ne m)
  have h2 := congrArg List.length hd
  have h3 : s.data.toList.length = s.size := by simp
  simp only [List.length_drop, List.length_append, h3] at h2
  omega
theorem readI_some (s : ByteArray) (a : Nat) (x : Nat × Int) : readI s a (some x) = (0, a, some x) := by simp [readI, readN, unzz]
theorem readB_some (s : ByteArray) (a : Nat) (x : Nat × Int) (m : Int) : readB s a (some x) m = (0, a, some x) := by simp [readB, readI_some]
/-- Where a reader stands behind i numbers. -/
def stood (s : ByteArray) (i a : Nat) : Err → Prop
  | none => i ≤ a ∧ a ≤ s.size
  | some x => a ≤ s.size ∧ (x.2 = 10 ∨ x.2 = 11)
theorem stood_next {s : ByteArray} {i a : Nat} (h : stood s i a none) : stood s (i + 1) (readN s a none).2.1 (readN s a none).2.2 := by
  have hle := readN_le s a none h.2
  have hp : ∀ n a', readN s a none = (n, a', none) → a < a' ∧ a' ≤ s.size := fun n a' e => num_pos e h.2
  have hc : ∀ n a' x, readN s a none = (n, a', some x) → (x.2 = 10 ∨ x.2 = 11) := fun n a' x e => num_code s _ _ _ _ e
  generalize readN s a none = N at *
  obtain ⟨n, a', e⟩ := N
  cases e with
  | none =>
    have := hp n a' rfl
    have h1 : i ≤ a := h.1
    exact ⟨by show i + 1 ≤ a'; omega, this.2⟩
  | some x => exact ⟨hle, hc n a' x rfl⟩
set_option maxHeartbeats 8000000 in
theorem ok6 (s : ByteArray) (l : List Th) (hl : ∀ t ∈ l, t.ok) : Go.Am.Pure Tryd.prog 6 [.d (sD s), slF thC l] (bI true) := by
  refine CallOk.of tysOk mixed od6 Tryd.func6 rfl rfl code6 ?_
  refine W.pure (ok16 s 300) rfl rfl ?_
  have hsz := cut_size s 300
  generalize cut s 300 = t at hsz
  refine W.callF [] [.var [.d (sD t), .d (nI 0), .d (.lit .nilIface)]] (x2 := .ptr 0 0) (ok11 t) (by decide) rfl rfl rfl rfl rfl rfl ?_
  refine W.loop (fun k fr σ => ∃ (i a : Nat) (e : Err), fr = [(1, slF thC l), (5, .ptr 0 0), (6, .d (nI i))] ∧ σ = rS t a e ∧ stood t i a e ∧ i ≤ 320 ∧ k = 320 - i) 320
    (Start.of [1, 5, 6] [] (by simp)) ⟨0, 0, none, rfl, rfl, ⟨by omega, by omega⟩, by omega, rfl⟩ ?_
  rintro k fr σ ⟨i, a, e, rfl, rfl, hst, hi, rfl⟩
  have one : ∀ {σ : Store} {j : Nat}, j < 1 → [0][j]? = some j := fun {σ j} h => by
    have : j = 0 := by omega
    subst this; rfl
  cases e with
  | none =>
    have hi' : i < 320 := by
      have h1 : i ≤ a := hst.1
      have h2 : a ≤ t.size := hst.2
      omega
    have c1 : decide ((i : Int) < 320) = true := decide_eq_true (by omega)
    repeat (first | refine W.ite_t c1 ?_ | refine W.ite_t rfl ?_ | refine W.ite_f rfl ?_)
    refine W.callF [0] [.var [.d (sD t), .d (nI a), .d (.lit .nilIface)]] (x2 := .d (.lit .nilIface)) (ok19 t a none) (by decide) rfl rfl rfl rfl rfl rfl ?_
    repeat (first | refine W.ite_t c1 ?_ | refine W.ite_t rfl ?_ | refine W.ite_f rfl ?_)
    have kN := ok12 t a none (by omega)
    have hnx := stood_next hst
    generalize readN t a none = N at kN hnx
    obtain ⟨n, a', e'⟩ := N
    refine W.callF [0] (rS t a' e') (x2 := .d (uI n)) kN (by decide) rfl rfl rfl rfl rfl rfl ?_
    have g1 : IntKind.i64.wrap ((i : Int) + 1) = ((i + 1 : Nat) : Int) := by rw [wrap64 (by omega) (by omega)]; rfl
    refine W.ret ⟨_, _, _, ?_, Trim.of [1, 5, 6] [0] (by decide) (by intro j hj; rw [List.mem_singleton] at hj; subst hj; exact Nat.zero_lt_one) (fun j hj => one (σ := []) hj), i + 1, a', e', ?_, rfl, hnx, by omega, rfl⟩
    · omega
    · rw [← g1]; rfl
  | some x =>
    have stop : W Tryd.prog (codeR tys od6 .skip [] [] fun _ _ _ => .fail) (fun _ _ _ => True) → True := fun _ => True.intro
    have hx0 : (x.2 == 0) = false := by
      rw [beq_eq_false_iff_ne]
      have := hst.2
      omega
    have hat : a ≤ t.size := hst.1
    have hT := fewTh_ok (m := 20) hl
    have hL := fewTh_len l 20
    have go : True := True.intro
    cases c1 : decide ((i : Int) < 320)
    all_goals
      repeat (first | refine W.ite_t c1 ?_ | refine W.ite_f c1 ?_ | refine W.ite_t rfl ?_ | refine W.ite_f rfl ?_)
      try (refine W.callF [0] [.var [.d (sD t), .d (nI a), .d (ftD codeW x.1 x.2)]] (x2 := .d (ftD codeW x.1 x.2)) (ok19 t a (some x)) (by decide) rfl rfl rfl rfl rfl rfl ?_
           repeat (first | refine W.ite_t c1 ?_ | refine W.ite_t rfl ?_ | refine W.ite_f rfl ?_))
      refine W.ret ?_
      refine W.callF [0] [.var [.d (sD t), .d (nI a), .d (ftD codeW x.1 x.2)]] (x2 := .d (ftD codeW x.1 x.2)) (ok19 t a (some x)) (by decide) rfl rfl rfl rfl rfl rfl ?_
      refine W.pure (As.okOf codeW x.1 x.2) rfl rfl ?_
      refine W.callF [0] [.var [.d (sD t), .d (nI a), .d (ftD codeW x.1 x.2)]] (x2 := .d (nI a)) (ok18 t a (some x)) (by decide) rfl rfl rfl rfl rfl rfl ?_
      refine W.ite_f hx0 ?_
      refine W.pure (ok7 l 20 (by decide)) rfl rfl ?_
      generalize fewTh l 20 = L at *
      refine W.loop (fun k fr σ => ∃ i : Nat, fr = [(5, .ptr 0 0), (7, .d (nI x.2)), (8, .d (nI a)), (33, slF thC L), (34, .d (nI L.length)), (35, .d (nI i))] ∧ σ = [.var [.d (sD t), .d (nI a), .d (ftD codeW x.1 x.2)]] ∧ i ≤ L.length ∧ k = L.length - i) L.length
        (Start.of [5, 7, 8, 33, 34, 35] [] (by simp)) ⟨0, rfl, rfl, by omega, rfl⟩ ?_
      rintro k fr σ ⟨i, rfl, rfl, hi, rfl⟩
      refine W.ite (fun c2 => ?_) (fun c2 => ?_)
      · have hil : i < L.length := by have := of_decide_eq_true c2; omega
        obtain ⟨y, hy⟩ : ∃ y, L[i]? = some y := ⟨_, List.getElem?_eq_getElem hil⟩
        have hyo := hT y (List.mem_of_getElem? hy)
        have g1 : IntKind.i64.wrap ((i : Int) + 1) = ((i + 1 : Nat) : Int) := by rw [wrap64 (by omega) (by omega)]; rfl
        have he : (!((ByteArray.mk #[]).toList == (ByteArray.mk #[]).toList)) = false := by rw [beq_self_eq_true]; rfl
        have ha : ((a : Int) != (a : Int)) = false := by simp
        have hx : (x.2 != x.2) = false := by simp
        have kI := ok23 t a (some x) (by omega)
        rw [readI_some] at kI
        have kB := ok26 t a (some x) y.n (by omega)
        rw [readB_some] at kB
        refine W.need (ix_ok thC_len (by decide) hil) ?_
        refine W.ld (thE hy) ?_
        refine W.callF [0] [.var [.d (sD t), .d (nI a), .d (ftD codeW x.1 x.2)], .var [.d (nI y.k), .d (nI y.n), .d (uI y.u), .d (sD y.s)]] (x2 := .d (uI 0)) (ok12 t a (some x) (by omega)) (by decide) rfl rfl rfl rfl rfl rfl ?_
        repeat (first | refine W.ite_t rfl ?_ | refine W.ite_f rfl ?_)
        refine W.callF [0] [.var [.d (sD t), .d (nI a), .d (ftD codeW x.1 x.2)], .var [.d (nI y.k), .d (nI y.n), .d (uI y.u), .d (sD y.s)]] (x2 := .d (nI 0)) kI (by decide) rfl rfl rfl rfl rfl rfl ?_
        repeat (first | refine W.ite_t rfl ?_ | refine W.ite_f rfl ?_)
        refine W.callF [0] [.var [.d (sD t), .d (nI a), .d (ftD codeW x.1 x.2)], .var [.d (nI y.k), .d (nI y.n), .d (uI y.u), .d (sD y.s)]] (x2 := .d (sD ⟨#[]⟩)) (ok13 t a (some x) y.n hyo.1.2.1 hat (by omega)) (by decide) rfl rfl rfl rfl rfl rfl ?_
        repeat (first | refine W.ite_f he ?_ | refine W.ite_t rfl ?_ | refine W.ite_f rfl ?_)
        refine W.callF [0] [.var [.d (sD t), .d (nI a), .d (ftD codeW x.1 x.2)], .var [.d (nI y.k), .d (nI y.n), .d (uI y.u), .d (sD y.s)]] (x2 := .d (nI 0)) kB (by decide) rfl rfl rfl rfl rfl rfl ?_
        repeat (first | refine W.ite_f he ?_ | refine W.ite_t rfl ?_ | refine W.ite_f rfl ?_)
        refine W.callF [0] [.var [.d (sD t), .d (nI a), .d (ftD codeW x.1 x.2)], .var [.d (nI y.k), .d (nI y.n), .d (uI y.u), .d (sD y.s)]] (x2 := .d (nI a)) (ok18 t a (some x)) (by decide) rfl rfl rfl rfl rfl rfl ?_
        repeat (first | refine W.ite_f he ?_ | refine W.ite_f ha ?_ | refine W.ite_t rfl ?_ | refine W.ite_f rfl ?_)
        refine W.callF [0] [.var [.d (sD t), .d (nI a), .d (ftD codeW x.1 x.2)], .var [.d (nI y.k), .d (nI y.n), .d (uI y.u), .d (sD y.s)]] (x2 := .d (ftD codeW x.1 x.2)) (ok19 t a (some x)) (by decide) rfl rfl rfl rfl rfl rfl ?_
        repeat (first | refine W.ite_f he ?_ | refine W.ite_f ha ?_ | refine W.ite_t rfl ?_ | refine W.ite_f rfl ?_)
        refine W.pure (As.okOf codeW x.1 x.2) rfl rfl ?_
        repeat (first | refine W.ite_f he ?_ | refine W.ite_f ha ?_ | refine W.ite_f hx ?_ | refine W.ite_t rfl ?_ | refine W.ite_f rfl ?_)
        refine W.ret ⟨_, _, _, ?_, Trim.of [5, 7, 8, 33, 34, 35] [0] (by decide) (by intro j hj; rw [List.mem_singleton] at hj; subst hj; exact Nat.lt_of_lt_of_le Nat.zero_lt_one (by decide : 1 ≤ 2)) (fun j hj => one (σ := []) hj), i + 1, ?_, rfl, by omega, rfl⟩
        · omega
        · rw [← g1]; rfl
      · refine W.ret ?_
        refine W.pure ok10 rfl rfl ?_
        repeat (first | refine W.ite_t rfl ?_ | refine W.ite_f rfl ?_)
        have kD := ok15 t a (some x)
        rw [show doneE t a (some x) = some x from by unfold doneE failE; split <;> rfl] at kD
        refine W.callF [0] [.var [.d (sD t), .d (nI a), .d (ftD codeW x.1 x.2)]] (x2 := .d (ftD codeW x.1 x.2)) kD (by decide) rfl rfl rfl rfl rfl rfl ?_
        repeat (first | refine W.ite_t rfl ?_ | refine W.ite_f rfl ?_)
        refine W.pure (As.okOf codeW x.1 x.2) rfl rfl ?_
        repeat (first | refine W.ite_t rfl ?_ | refine W.ite_f rfl ?_)
        exact W.ret (RetQ.pure rfl (ret_bI (beq_self_eq_true _)))
end Go.Proofs.YtgbhfnbehmlohaaDoor.Co
