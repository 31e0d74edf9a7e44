import Derived.Test.YtemabpapfkplgaaBF
import Derived.Test.YtemabpapfkplgaaBV
set_option maxRecDepth 100000
set_option linter.unusedVariables false
set_option linter.unusedSimpArgs false
/- The statement BagOrder. -/
namespace Go.Proofs.Ytemabpapfkplgaa.Bg
open Go Go.Am
def od6 : Ords := [(19, [0, 1, 2, 3, 4, 5, 6, 7, 8, 9, 10, 11])]
theorem code6 : codeB Try.f6.ntmps od6 (match Try.f6.body with | some c => c | none => .skip) = true := by kernel_rfl
/-- A bag behind some calls. -/
structure Inv (i : Nat) (b : B) : Prop where
  n0 : 0 ≤ b.n
  n1 : b.n ≤ i
  len : b.l.length ≤ i
  srt : b.l.Pairwise fun p q => p.id < q.id
  top : ∀ p ∈ b.l, p.id ≤ b.n
  tx : ∀ p ∈ b.l, p.tx.size ≤ 2000
theorem Inv.more {i : Nat} {b : B} (h : Inv i b) : Inv (i + 1) b := ⟨h.n0, by have := h.n1; omega, by have := h.len; omega, h.srt, h.top, h.tx⟩
theorem Inv.snoc {i : Nat} {b : B} (h : Inv i b) (f t : Int) (s : ByteArray) (hs : s.size ≤ 2000) (e : Nat) (j : List D) : Inv (i + 1) ⟨b.n + 1, b.l ++ [⟨b.n + 1, f, t, s⟩], e, j⟩ where
  n0 := by have := h.n0; show 0 ≤ b.n + 1; omega
  n1 := by have := h.n1; show b.n + 1 ≤ ((i + 1 : Nat) : Int); omega
  len := by have := h.len; simp only [List.length_append, List.length_singleton]; omega
  srt := by
    refine List.pairwise_append.2 ⟨h.srt, by simp, fun p hp q hq => ?_⟩
    obtain rfl := List.mem_singleton.1 hq
    have := h.top p hp
    show p.id < b.n + 1
    omega
  top := fun p hp => by
    rcases List.mem_append.1 hp with hp | hp
    · have := h.top p hp; show p.id ≤ b.n + 1; omega
    · obtain rfl := List.mem_singleton.1 hp; exact Int.le_refl _
  tx := fun p hp => by
    rcases List.mem_append.1 hp with hp | hp
    · exact h.tx p hp
    · obtain rfl := List.mem_singleton.1 hp; exact hs
theorem Inv.del {i : Nat} {b : B} (h : Inv i b) (k : Nat) (j : List D) : Inv (i + 1) ⟨b.n, b.l.eraseIdx k, b.e, j⟩ where
  n0 := h.n0
  n1 := by have := h.n1; show b.n ≤ ((i + 1 : Nat) : Int); omega
  len := by have := h.len; have h2 := List.length_eraseIdx_le b.l k; simp only; omega
  srt := h.srt.sublist (List.eraseIdx_sublist b.l k)
  top := fun p hp => h.top p ((List.eraseIdx_sublist b.l k).subset hp)
  tx := fun p hp => h.tx p ((List.eraseIdx_sublist b.l k).subset hp)
theorem ix_cases (x : Int) (l : List Pk) : ixI x l = -1 ∨ ∃ (k : Nat) (p : Pk), ixI x l = k ∧ l[k]? = some p := by
  rcases ixD_spec (fun p => p.id == x) l 0 with ⟨h, _⟩ | ⟨k, p, h1, h2, _, _⟩
  · exact .inl h
  · exact .inr ⟨k, p, by unfold ixI; rw [h1, Nat.zero_add], h2⟩
theorem sendI {i : Nat} {b : B} (h : Inv i b) (hi : i ≤ 1000) (f t : Int) (s : ByteArray) (hs : s.size ≤ 2000) :
    CallOk Try.prog 8 [.ptr 1 0, .d (nI f), .d (nI t), .d (sD s)] (bS b) (fun v s' => ∃ n c b', v = rN n c ∧ s' = bS b' ∧ Inv (i + 1) b') :=
  (ok8S b f t s hs (by have := h.len; omega) ⟨h.n0, by have := h.n1; omega⟩).mono fun v s' ⟨h1, e, j, h2⟩ => ⟨_, _, _, h1, h2, h.snoc f t s hs e j⟩
theorem takeI {i : Nat} {b : B} (h : Inv i b) (hi : i ≤ 1000) (x : Int) :
    CallOk Try.prog 9 [.ptr 1 0, .d (nI x)] (bS b) (fun v s' => ∃ p c b', v = rT p c ∧ s' = bS b' ∧ Inv (i + 1) b') := by
  have hl := h.len
  rcases ix_cases x b.l with hx | ⟨k, p, hx, hp⟩
  · exact (ok9N b x (by omega) hx).mono fun v s' ⟨h1, h2⟩ => ⟨_, _, _, h1, h2, h.more⟩
  · exact (ok9S b x (by omega) hx hp).mono fun v s' ⟨h1, h2⟩ => ⟨_, _, _, h1, h2, h.del k _⟩
theorem copyI {i : Nat} {b : B} (h : Inv i b) (hi : i ≤ 1000) (x : Int) :
    CallOk Try.prog 12 [.ptr 1 0, .d (nI x)] (bS b) (fun v s' => ∃ n c b', v = rN n c ∧ s' = bS b' ∧ Inv (i + 1) b') := by
  have hl := h.len
  rcases ix_cases x b.l with hx | ⟨k, p, hx, hp⟩
  · exact (ok12N b x (by omega) hx).mono fun v s' ⟨h1, h2⟩ => ⟨_, _, _, h1, h2, h.more⟩
  · have ht := h.tx p (List.mem_of_getElem? hp)
    exact (ok12K b x hx hp ht (by omega) ⟨h.n0, by have := h.n1; omega⟩).mono fun v s' ⟨h1, e, j, h2⟩ => ⟨_, _, _, h1, h2, h.snoc p.fr p.to p.tx ht e j⟩
theorem pkD0 {l : List Pk} {i : Nat} {p : Pk} (h : l[i]? = some p) : Elem (flat pkC l) [.int .i64] (i * 4 + 0) 1 [nI p.id] := Elem.of pkC_len h [.int .i64] 0 rfl (by decide) ⟨rfl, True.intro⟩ rfl
theorem pkD1 {l : List Pk} {i : Nat} {p : Pk} (h : l[i]? = some p) : Elem (flat pkC l) [.int .i64] (i * 4 + 1) 1 [nI p.fr] := Elem.of pkC_len h [.int .i64] 1 rfl (by decide) ⟨rfl, True.intro⟩ rfl
theorem keep3 : ∀ i, i < 3 → [0, 1, 2][i]? = some i := by
  intro j hj; have : j = 0 ∨ j = 1 ∨ j = 2 := (by omega); rcases this with rfl | rfl | rfl <;> rfl
abbrev xS : ByteArray := ⟨#[120]⟩
set_option maxHeartbeats 8000000 in
theorem ok6 (l : List Act) : Go.Am.Pure Try.prog 6 [slF acC l] (bI true) := by
  refine CallOk.of tysOk mixed od6 Try.func6 rfl rfl code6 ?_
  refine W.loop (fun k fr σ => ∃ (i : Nat) (b : B), fr = [(0, slF acC l), (3, .ptr 1 0), (4, .d (nI i))] ∧ σ = bS b ∧ i ≤ 40 ∧ Inv i b ∧ k = 40 - i) 40
    (Start.of [0, 3, 4] [] (by simp)) ⟨0, ⟨0, [], 0, []⟩, rfl, rfl, by omega, ⟨by decide, by decide, by decide, by simp, by simp, by simp⟩, rfl⟩ ?_
  rintro k fr σ ⟨i, b, rfl, rfl, hi, hinv, rfl⟩
  have fin : ∀ {b : B}, Inv i b → CallOk Try.prog 8 [.ptr 1 0, .d (nI 7), .d (nI 8), .d (sD xS)] (bS b) (fun v s' => v = rN (b.n + 1) (.lit .nilIface) ∧ bR (b.n + 1) (b.l ++ [⟨b.n + 1, 7, 8, xS⟩]) s') := fun {b} h => ok8S b 7 8 xS (by decide) (by have := h.len; omega) ⟨h.n0, by have := h.n1; omega⟩
  by_cases hgo : i < l.length ∧ i < 40
  · obtain ⟨hil, hi4⟩ := hgo
    have c1 : decide ((i : Int) < (l.length : Int)) = true := decide_eq_true (by omega)
    have c2 : decide ((i : Int) < 40) = true := decide_eq_true (by omega)
    repeat (first | refine W.ite_t rfl ?_ | refine W.ite_f rfl ?_ | refine W.ite_t c1 ?_ | refine W.ite_t c2 ?_)
    obtain ⟨a, ha⟩ : ∃ x, l[i]? = some x := ⟨_, List.getElem?_eq_getElem hil⟩
    refine W.need (ix_ok acC_len (by decide) hil) ?_
    refine W.ld (acE ha) ?_
    have g4 : IntKind.i64.wrap ((i : Int) + 1) = ((i + 1 : Nat) : Int) := by rw [wrap64 (by omega) (by omega)]; rfl
    by_cases h100 : a.s.size > 100
    · have c3 : decide ((a.s.size : Int) > 100) = true := decide_eq_true (by omega)
      refine W.ite_t c3 ?_
      refine W.need ⟨by omega, by show (100 : Int) ≤ (a.s.size : Int); omega⟩ ?_
      have hs : (a.s.extract 0 100).size ≤ 2000 := by rw [ByteArray.size_extract]; omega
      by_cases k1 : a.k = 1
      · have d1 : (a.k == 1) = true := by rw [beq_int]; exact decide_eq_true k1
        refine W.ite_t d1 ?_
        refine W.callT [0, 1] (sendI hinv (by omega) a.a a.b (a.s.extract 0 100) hs) (by decide) rfl rfl rfl rfl ?_
        rintro v σ ⟨n, c, b', rfl, rfl, hinv'⟩
        refine W.callF [0, 1] (bS b' ++ [.var [.d (nI a.k), .d (nI a.a), .d (nI a.b), .d (sD (a.s.extract 0 100))]]) (ok14 b' (by have := hinv'.len; omega)) (by decide) rfl rfl rfl rfl rfl rfl ?_
        refine W.loop (fun k fr σ => ∃ q : Nat, fr = [(0, slF acC l), (3, .ptr 1 0), (4, .d (nI i)), (6, slP b'.l), (7, .d (nI ((q + 1 : Nat) : Int)))] ∧ σ = bS b' ++ [.var [.d (nI a.k), .d (nI a.a), .d (nI a.b), .d (sD (a.s.extract 0 100))]] ∧ q ≤ b'.l.length ∧ k = b'.l.length - q) b'.l.length
          (Start.of [0, 3, 4, 6, 7] [] (by simp)) ⟨0, rfl, rfl, by omega, rfl⟩ ?_
        rintro k fr σ ⟨q, rfl, rfl, hq, rfl⟩
        refine W.ite (fun d5 => ?_) (fun d5 => ?_)
        · have hql : q + 1 < b'.l.length := by have := of_decide_eq_true d5; omega
          have hbl := hinv'.len
          obtain ⟨p1, hp1⟩ : ∃ x, b'.l[q]? = some x := ⟨_, List.getElem?_eq_getElem (by omega)⟩
          obtain ⟨p2, hp2⟩ : ∃ x, b'.l[q + 1]? = some x := ⟨_, List.getElem?_eq_getElem (by omega)⟩
          have hlt : p1.id < p2.id := by
            obtain ⟨z1, z2⟩ := List.getElem?_eq_some_iff.1 hp1
            obtain ⟨z3, z4⟩ := List.getElem?_eq_some_iff.1 hp2
            have := List.pairwise_iff_getElem.1 hinv'.srt q (q + 1) z1 z3 (by omega)
            rw [z2, z4] at this
            exact this
          have g5 : IntKind.i64.wrap (((q + 1 : Nat) : Int) - 1) = (q : Int) := by rw [wrap64 (by omega) (by omega)]; omega
          refine W.need (by rw [g5]; exact ix_ok pkC_len (by decide) (by omega)) ?_
          refine W.ld (by rw [g5]; exact pkD0 hp1) ?_
          refine W.need (ix_ok pkC_len (by decide) hql) ?_
          refine W.ld (pkD0 hp2) ?_
          have d6 : decide (p1.id ≥ p2.id) = false := decide_eq_false (by omega)
          refine W.ite_f d6 ?_
          have g1 : IntKind.i64.wrap (((q + 1 : Nat) : Int) + 1) = ((q + 1 + 1 : Nat) : Int) := by rw [wrap64 (by omega) (by omega)]; omega
          refine W.ret ⟨_, _, _, ?_, Trim.of [0, 3, 4, 6, 7] [0, 1, 2] (by decide) (by show ∀ i ∈ [0, 1, 2], i < 3; simp) keep3, q + 1, ?_, rfl, by omega, rfl⟩
          · omega
          · rw [← g1]; rfl
        · refine W.ret (W.ret ⟨_, _, _, ?_, Trim.of [0, 3, 4] [0, 1] (by decide) (by show ∀ i ∈ [0, 1], i < 3; simp) keep2, i + 1, b', ?_, rfl, by omega, hinv', rfl⟩)
          · omega
          · rw [← g4]; rfl
      have d1 : (a.k == 1) = false := by rw [beq_int]; exact decide_eq_false k1
      by_cases k2 : a.k = 2
      · have d2 : (a.k == 2) = true := by rw [beq_int]; exact decide_eq_true k2
        refine W.ite_f d1 ?_
        refine W.ite_t d2 ?_
        refine W.callT [0, 1] (takeI hinv (by omega) a.a) (by decide) rfl rfl rfl rfl ?_
        rintro v σ ⟨n, c, b', rfl, rfl, hinv'⟩
        refine W.callF [0, 1] (bS b' ++ [.var [.d (nI a.k), .d (nI a.a), .d (nI a.b), .d (sD (a.s.extract 0 100))]]) (ok14 b' (by have := hinv'.len; omega)) (by decide) rfl rfl rfl rfl rfl rfl ?_
        refine W.loop (fun k fr σ => ∃ q : Nat, fr = [(0, slF acC l), (3, .ptr 1 0), (4, .d (nI i)), (6, slP b'.l), (7, .d (nI ((q + 1 : Nat) : Int)))] ∧ σ = bS b' ++ [.var [.d (nI a.k), .d (nI a.a), .d (nI a.b), .d (sD (a.s.extract 0 100))]] ∧ q ≤ b'.l.length ∧ k = b'.l.length - q) b'.l.length
          (Start.of [0, 3, 4, 6, 7] [] (by simp)) ⟨0, rfl, rfl, by omega, rfl⟩ ?_
        rintro k fr σ ⟨q, rfl, rfl, hq, rfl⟩
        refine W.ite (fun d5 => ?_) (fun d5 => ?_)
        · have hql : q + 1 < b'.l.length := by have := of_decide_eq_true d5; omega
          have hbl := hinv'.len
          obtain ⟨p1, hp1⟩ : ∃ x, b'.l[q]? = some x := ⟨_, List.getElem?_eq_getElem (by omega)⟩
          obtain ⟨p2, hp2⟩ : ∃ x, b'.l[q + 1]? = some x := ⟨_, List.getElem?_eq_getElem (by omega)⟩
          have hlt : p1.id < p2.id := by
            obtain ⟨z1, z2⟩ := List.getElem?_eq_some_iff.1 hp1
            obtain ⟨z3, z4⟩ := List.getElem?_eq_some_iff.1 hp2
            have := List.pairwise_iff_getElem.1 hinv'.srt q (q + 1) z1 z3 (by omega)
            rw [z2, z4] at this
            exact this
          have g5 : IntKind.i64.wrap (((q + 1 : Nat) : Int) - 1) = (q : Int) := by rw [wrap64 (by omega) (by omega)]; omega
          refine W.need (by rw [g5]; exact ix_ok pkC_len (by decide) (by omega)) ?_
          refine W.ld (by rw [g5]; exact pkD0 hp1) ?_
          refine W.need (ix_ok pkC_len (by decide) hql) ?_
          refine W.ld (pkD0 hp2) ?_
          have d6 : decide (p1.id ≥ p2.id) = false := decide_eq_false (by omega)
          refine W.ite_f d6 ?_
          have g1 : IntKind.i64.wrap (((q + 1 : Nat) : Int) + 1) = ((q + 1 + 1 : Nat) : Int) := by rw [wrap64 (by omega) (by omega)]; omega
          refine W.ret ⟨_, _, _, ?_, Trim.of [0, 3, 4, 6, 7] [0, 1, 2] (by decide) (by show ∀ i ∈ [0, 1, 2], i < 3; simp) keep3, q + 1, ?_, rfl, by omega, rfl⟩
          · omega
          · rw [← g1]; rfl
        · refine W.ret (W.ret ⟨_, _, _, ?_, Trim.of [0, 3, 4] [0, 1] (by decide) (by show ∀ i ∈ [0, 1], i < 3; simp) keep2, i + 1, b', ?_, rfl, by omega, hinv', rfl⟩)
          · omega
          · rw [← g4]; rfl
      have d2 : (a.k == 2) = false := by rw [beq_int]; exact decide_eq_false k2
      by_cases k3 : a.k = 3
      · have d3 : (a.k == 3) = true := by rw [beq_int]; exact decide_eq_true k3
        refine W.ite_f d1 ?_
        refine W.ite_f d2 ?_
        refine W.ite_t d3 ?_
        refine W.callT [0, 1] (copyI hinv (by omega) a.a) (by decide) rfl rfl rfl rfl ?_
        rintro v σ ⟨n, c, b', rfl, rfl, hinv'⟩
        refine W.callF [0, 1] (bS b' ++ [.var [.d (nI a.k), .d (nI a.a), .d (nI a.b), .d (sD (a.s.extract 0 100))]]) (ok14 b' (by have := hinv'.len; omega)) (by decide) rfl rfl rfl rfl rfl rfl ?_
        refine W.loop (fun k fr σ => ∃ q : Nat, fr = [(0, slF acC l), (3, .ptr 1 0), (4, .d (nI i)), (6, slP b'.l), (7, .d (nI ((q + 1 : Nat) : Int)))] ∧ σ = bS b' ++ [.var [.d (nI a.k), .d (nI a.a), .d (nI a.b), .d (sD (a.s.extract 0 100))]] ∧ q ≤ b'.l.length ∧ k = b'.l.length - q) b'.l.length
          (Start.of [0, 3, 4, 6, 7] [] (by simp)) ⟨0, rfl, rfl, by omega, rfl⟩ ?_
        rintro k fr σ ⟨q, rfl, rfl, hq, rfl⟩
        refine W.ite (fun d5 => ?_) (fun d5 => ?_)
        · have hql : q + 1 < b'.l.length := by have := of_decide_eq_true d5; omega
          have hbl := hinv'.len
          obtain ⟨p1, hp1⟩ : ∃ x, b'.l[q]? = some x := ⟨_, List.getElem?_eq_getElem (by omega)⟩
          obtain ⟨p2, hp2⟩ : ∃ x, b'.l[q + 1]? = some x := ⟨_, List.getElem?_eq_getElem (by omega)⟩
          have hlt : p1.id < p2.id := by
            obtain ⟨z1, z2⟩ := List.getElem?_eq_some_iff.1 hp1
            obtain ⟨z3, z4⟩ := List.getElem?_eq_some_iff.1 hp2
            have := List.pairwise_iff_getElem.1 hinv'.srt q (q + 1) z1 z3 (by omega)
            rw [z2, z4] at this
            exact this
          have g5 : IntKind.i64.wrap (((q + 1 : Nat) : Int) - 1) = (q : Int) := by rw [wrap64 (by omega) (by omega)]; omega
          refine W.need (by rw [g5]; exact ix_ok pkC_len (by decide) (by omega)) ?_
          refine W.ld (by rw [g5]; exact pkD0 hp1) ?_
          refine W.need (ix_ok pkC_len (by decide) hql) ?_
          refine W.ld (pkD0 hp2) ?_
          have d6 : decide (p1.id ≥ p2.id) = false := decide_eq_false (by omega)
          refine W.ite_f d6 ?_
          have g1 : IntKind.i64.wrap (((q + 1 : Nat) : Int) + 1) = ((q + 1 + 1 : Nat) : Int) := by rw [wrap64 (by omega) (by omega)]; omega
          refine W.ret ⟨_, _, _, ?_, Trim.of [0, 3, 4, 6, 7] [0, 1, 2] (by decide) (by show ∀ i ∈ [0, 1, 2], i < 3; simp) keep3, q + 1, ?_, rfl, by omega, rfl⟩
          · omega
          · rw [← g1]; rfl
        · refine W.ret (W.ret ⟨_, _, _, ?_, Trim.of [0, 3, 4] [0, 1] (by decide) (by show ∀ i ∈ [0, 1], i < 3; simp) keep2, i + 1, b', ?_, rfl, by omega, hinv', rfl⟩)
          · omega
          · rw [← g4]; rfl
      · have d3 : (a.k == 3) = false := by rw [beq_int]; exact decide_eq_false k3
        refine W.ite_f d1 ?_
        refine W.ite_f d2 ?_
        refine W.ite_f d3 ?_
        have hinv' := hinv.more
        generalize b = b' at *
        refine W.callF [0, 1] (bS b' ++ [.var [.d (nI a.k), .d (nI a.a), .d (nI a.b), .d (sD (a.s.extract 0 100))]]) (ok14 b' (by have := hinv'.len; omega)) (by decide) rfl rfl rfl rfl rfl rfl ?_
        refine W.loop (fun k fr σ => ∃ q : Nat, fr = [(0, slF acC l), (3, .ptr 1 0), (4, .d (nI i)), (6, slP b'.l), (7, .d (nI ((q + 1 : Nat) : Int)))] ∧ σ = bS b' ++ [.var [.d (nI a.k), .d (nI a.a), .d (nI a.b), .d (sD (a.s.extract 0 100))]] ∧ q ≤ b'.l.length ∧ k = b'.l.length - q) b'.l.length
          (Start.of [0, 3, 4, 6, 7] [] (by simp)) ⟨0, rfl, rfl, by omega, rfl⟩ ?_
        rintro k fr σ ⟨q, rfl, rfl, hq, rfl⟩
        refine W.ite (fun d5 => ?_) (fun d5 => ?_)
        · have hql : q + 1 < b'.l.length := by have := of_decide_eq_true d5; omega
          have hbl := hinv'.len
          obtain ⟨p1, hp1⟩ : ∃ x, b'.l[q]? = some x := ⟨_, List.getElem?_eq_getElem (by omega)⟩
          obtain ⟨p2, hp2⟩ : ∃ x, b'.l[q + 1]? = some x := ⟨_, List.getElem?_eq_getElem (by omega)⟩
          have hlt : p1.id < p2.id := by
            obtain ⟨z1, z2⟩ := List.getElem?_eq_some_iff.1 hp1
            obtain ⟨z3, z4⟩ := List.getElem?_eq_some_iff.1 hp2
            have := List.pairwise_iff_getElem.1 hinv'.srt q (q + 1) z1 z3 (by omega)
            rw [z2, z4] at this
            exact this
          have g5 : IntKind.i64.wrap (((q + 1 : Nat) : Int) - 1) = (q : Int) := by rw [wrap64 (by omega) (by omega)]; omega
          refine W.need (by rw [g5]; exact ix_ok pkC_len (by decide) (by omega)) ?_
          refine W.ld (by rw [g5]; exact pkD0 hp1) ?_
          refine W.need (ix_ok pkC_len (by decide) hql) ?_
          refine W.ld (pkD0 hp2) ?_
          have d6 : decide (p1.id ≥ p2.id) = false := decide_eq_false (by omega)
          refine W.ite_f d6 ?_
          have g1 : IntKind.i64.wrap (((q + 1 : Nat) : Int) + 1) = ((q + 1 + 1 : Nat) : Int) := by rw [wrap64 (by omega) (by omega)]; omega
          refine W.ret ⟨_, _, _, ?_, Trim.of [0, 3, 4, 6, 7] [0, 1, 2] (by decide) (by show ∀ i ∈ [0, 1, 2], i < 3; simp) keep3, q + 1, ?_, rfl, by omega, rfl⟩
          · omega
          · rw [← g1]; rfl
        · refine W.ret (W.ret ⟨_, _, _, ?_, Trim.of [0, 3, 4] [0, 1] (by decide) (by show ∀ i ∈ [0, 1], i < 3; simp) keep2, i + 1, b', ?_, rfl, by omega, hinv', rfl⟩)
          · omega
          · rw [← g4]; rfl
    · have c3 : decide ((a.s.size : Int) > 100) = false := decide_eq_false (by omega)
      refine W.ite_f c3 ?_
      have hs : (a.s).size ≤ 2000 := by omega
      by_cases k1 : a.k = 1
      · have d1 : (a.k == 1) = true := by rw [beq_int]; exact decide_eq_true k1
        refine W.ite_t d1 ?_
        refine W.callT [0, 1] (sendI hinv (by omega) a.a a.b (a.s) hs) (by decide) rfl rfl rfl rfl ?_
        rintro v σ ⟨n, c, b', rfl, rfl, hinv'⟩
        refine W.callF [0, 1] (bS b' ++ [.var [.d (nI a.k), .d (nI a.a), .d (nI a.b), .d (sD (a.s))]]) (ok14 b' (by have := hinv'.len; omega)) (by decide) rfl rfl rfl rfl rfl rfl ?_
        refine W.loop (fun k fr σ => ∃ q : Nat, fr = [(0, slF acC l), (3, .ptr 1 0), (4, .d (nI i)), (6, slP b'.l), (7, .d (nI ((q + 1 : Nat) : Int)))] ∧ σ = bS b' ++ [.var [.d (nI a.k), .d (nI a.a), .d (nI a.b), .d (sD (a.s))]] ∧ q ≤ b'.l.length ∧ k = b'.l.length - q) b'.l.length
          (Start.of [0, 3, 4, 6, 7] [] (by simp)) ⟨0, rfl, rfl, by omega, rfl⟩ ?_
        rintro k fr σ ⟨q, rfl, rfl, hq, rfl⟩
        refine W.ite (fun d5 => ?_) (fun d5 => ?_)
        · have hql : q + 1 < b'.l.length := by have := of_decide_eq_true d5; omega
          have hbl := hinv'.len
          obtain ⟨p1, hp1⟩ : ∃ x, b'.l[q]? = some x := ⟨_, List.getElem?_eq_getElem (by omega)⟩
          obtain ⟨p2, hp2⟩ : ∃ x, b'.l[q + 1]? = some x := ⟨_, List.getElem?_eq_getElem (by omega)⟩
          have hlt : p1.id < p2.id := by
            obtain ⟨z1, z2⟩ := List.getElem?_eq_some_iff.1 hp1
            obtain ⟨z3, z4⟩ := List.getElem?_eq_some_iff.1 hp2
            have := List.pairwise_iff_getElem.1 hinv'.srt q (q + 1) z1 z3 (by omega)
            rw [z2, z4] at this
            exact this
          have g5 : IntKind.i64.wrap (((q + 1 : Nat) : Int) - 1) = (q : Int) := by rw [wrap64 (by omega) (by omega)]; omega
          refine W.need (by rw [g5]; exact ix_ok pkC_len (by decide) (by omega)) ?_
          refine W.ld (by rw [g5]; exact pkD0 hp1) ?_
          refine W.need (ix_ok pkC_len (by decide) hql) ?_
          refine W.ld (pkD0 hp2) ?_
          have d6 : decide (p1.id ≥ p2.id) = false := decide_eq_false (by omega)
          refine W.ite_f d6 ?_
          have g1 : IntKind.i64.wrap (((q + 1 : Nat) : Int) + 1) = ((q + 1 + 1 : Nat) : Int) := by rw [wrap64 (by omega) (by omega)]; omega
          refine W.ret ⟨_, _, _, ?_, Trim.of [0, 3, 4, 6, 7] [0, 1, 2] (by decide) (by show ∀ i ∈ [0, 1, 2], i < 3; simp) keep3, q + 1, ?_, rfl, by omega, rfl⟩
          · omega
          · rw [← g1]; rfl
        · refine W.ret (W.ret ⟨_, _, _, ?_, Trim.of [0, 3, 4] [0, 1] (by decide) (by show ∀ i ∈ [0, 1], i < 3; simp) keep2, i + 1, b', ?_, rfl, by omega, hinv', rfl⟩)
          · omega
          · rw [← g4]; rfl
      have d1 : (a.k == 1) = false := by rw [beq_int]; exact decide_eq_false k1
      by_cases k2 : a.k = 2
      · have d2 : (a.k == 2) = true := by rw [beq_int]; exact decide_eq_true k2
        refine W.ite_f d1 ?_
        refine W.ite_t d2 ?_
        refine W.callT [0, 1] (takeI hinv (by omega) a.a) (by decide) rfl rfl rfl rfl ?_
        rintro v σ ⟨n, c, b', rfl, rfl, hinv'⟩
        refine W.callF [0, 1] (bS b' ++ [.var [.d (nI a.k), .d (nI a.a), .d (nI a.b), .d (sD (a.s))]]) (ok14 b' (by have := hinv'.len; omega)) (by decide) rfl rfl rfl rfl rfl rfl ?_
        refine W.loop (fun k fr σ => ∃ q : Nat, fr = [(0, slF acC l), (3, .ptr 1 0), (4, .d (nI i)), (6, slP b'.l), (7, .d (nI ((q + 1 : Nat) : Int)))] ∧ σ = bS b' ++ [.var [.d (nI a.k), .d (nI a.a), .d (nI a.b), .d (sD (a.s))]] ∧ q ≤ b'.l.length ∧ k = b'.l.length - q) b'.l.length
          (Start.of [0, 3, 4, 6, 7] [] (by simp)) ⟨0, rfl, rfl, by omega, rfl⟩ ?_
        rintro k fr σ ⟨q, rfl, rfl, hq, rfl⟩
        refine W.ite (fun d5 => ?_) (fun d5 => ?_)
        · have hql : q + 1 < b'.l.length := by have := of_decide_eq_true d5; omega
          have hbl := hinv'.len
          obtain ⟨p1, hp1⟩ : ∃ x, b'.l[q]? = some x := ⟨_, List.getElem?_eq_getElem (by omega)⟩
          obtain ⟨p2, hp2⟩ : ∃ x, b'.l[q + 1]? = some x := ⟨_, List.getElem?_eq_getElem (by omega)⟩
          have hlt : p1.id < p2.id := by
            obtain ⟨z1, z2⟩ := List.getElem?_eq_some_iff.1 hp1
            obtain ⟨z3, z4⟩ := List.getElem?_eq_some_iff.1 hp2
            have := List.pairwise_iff_getElem.1 hinv'.srt q (q + 1) z1 z3 (by omega)
            rw [z2, z4] at this
            exact this
          have g5 : IntKind.i64.wrap (((q + 1 : Nat) : Int) - 1) = (q : Int) := by rw [wrap64 (by omega) (by omega)]; omega
          refine W.need (by rw [g5]; exact ix_ok pkC_len (by decide) (by omega)) ?_
          refine W.ld (by rw [g5]; exact pkD0 hp1) ?_
          refine W.need (ix_ok pkC_len (by decide) hql) ?_
          refine W.ld (pkD0 hp2) ?_
          have d6 : decide (p1.id ≥ p2.id) = false := decide_eq_false (by omega)
          refine W.ite_f d6 ?_
          have g1 : IntKind.i64.wrap (((q + 1 : Nat) : Int) + 1) = ((q + 1 + 1 : Nat) : Int) := by rw [wrap64 (by omega) (by omega)]; omega
          refine W.ret ⟨_, _, _, ?_, Trim.of [0, 3, 4, 6, 7] [0, 1, 2] (by decide) (by show ∀ i ∈ [0, 1, 2], i < 3; simp) keep3, q + 1, ?_, rfl, by omega, rfl⟩
          · omega
          · rw [← g1]; rfl
        · refine W.ret (W.ret ⟨_, _, _, ?_, Trim.of [0, 3, 4] [0, 1] (by decide) (by show ∀ i ∈ [0, 1], i < 3; simp) keep2, i + 1, b', ?_, rfl, by omega, hinv', rfl⟩)
          · omega
          · rw [← g4]; rfl
      have d2 : (a.k == 2) = false := by rw [beq_int]; exact decide_eq_false k2
      by_cases k3 : a.k = 3
      · have d3 : (a.k == 3) = true := by rw [beq_int]; exact decide_eq_true k3
        refine W.ite_f d1 ?_
        refine W.ite_f d2 ?_
        refine W.ite_t d3 ?_
        refine W.callT [0, 1] (copyI hinv (by omega) a.a) (by decide) rfl rfl rfl rfl ?_
        rintro v σ ⟨n, c, b', rfl, rfl, hinv'⟩
        refine W.callF [0, 1] (bS b' ++ [.var [.d (nI a.k), .d (nI a.a), .d (nI a.b), .d (sD (a.s))]]) (ok14 b' (by have := hinv'.len; omega)) (by decide) rfl rfl rfl rfl rfl rfl ?_
        refine W.loop (fun k fr σ => ∃ q : Nat, fr = [(0, slF acC l), (3, .ptr 1 0), (4, .d (nI i)), (6, slP b'.l), (7, .d (nI ((q + 1 : Nat) : Int)))] ∧ σ = bS b' ++ [.var [.d (nI a.k), .d (nI a.a), .d (nI a.b), .d (sD (a.s))]] ∧ q ≤ b'.l.length ∧ k = b'.l.length - q) b'.l.length
          (Start.of [0, 3, 4, 6, 7] [] (by simp)) ⟨0, rfl, rfl, by omega, rfl⟩ ?_
        rintro k fr σ ⟨q, rfl, rfl, hq, rfl⟩
        refine W.ite (fun d5 => ?_) (fun d5 => ?_)
        · have hql : q + 1 < b'.l.length := by have := of_decide_eq_true d5; omega
          have hbl := hinv'.len
          obtain ⟨p1, hp1⟩ : ∃ x, b'.l[q]? = some x := ⟨_, List.getElem?_eq_getElem (by omega)⟩
          obtain ⟨p2, hp2⟩ : ∃ x, b'.l[q + 1]? = some x := ⟨_, List.getElem?_eq_getElem (by omega)⟩
          have hlt : p1.id < p2.id := by
            obtain ⟨z1, z2⟩ := List.getElem?_eq_some_iff.1 hp1
            obtain ⟨z3, z4⟩ := List.getElem?_eq_some_iff.1 hp2
            have := List.pairwise_iff_getElem.1 hinv'.srt q (q + 1) z1 z3 (by omega)
            rw [z2, z4] at this
            exact this
          have g5 : IntKind.i64.wrap (((q + 1 : Nat) : Int) - 1) = (q : Int) := by rw [wrap64 (by omega) (by omega)]; omega
          refine W.need (by rw [g5]; exact ix_ok pkC_len (by decide) (by omega)) ?_
          refine W.ld (by rw [g5]; exact pkD0 hp1) ?_
          refine W.need (ix_ok pkC_len (by decide) hql) ?_
          refine W.ld (pkD0 hp2) ?_
          have d6 : decide (p1.id ≥ p2.id) = false := decide_eq_false (by omega)
          refine W.ite_f d6 ?_
          have g1 : IntKind.i64.wrap (((q + 1 : Nat) : Int) + 1) = ((q + 1 + 1 : Nat) : Int) := by rw [wrap64 (by omega) (by omega)]; omega
          refine W.ret ⟨_, _, _, ?_, Trim.of [0, 3, 4, 6, 7] [0, 1, 2] (by decide) (by show ∀ i ∈ [0, 1, 2], i < 3; simp) keep3, q + 1, ?_, rfl, by omega, rfl⟩
          · omega
          · rw [← g1]; rfl
        · refine W.ret (W.ret ⟨_, _, _, ?_, Trim.of [0, 3, 4] [0, 1] (by decide) (by show ∀ i ∈ [0, 1], i < 3; simp) keep2, i + 1, b', ?_, rfl, by omega, hinv', rfl⟩)
          · omega
          · rw [← g4]; rfl
      · have d3 : (a.k == 3) = false := by rw [beq_int]; exact decide_eq_false k3
        refine W.ite_f d1 ?_
        refine W.ite_f d2 ?_
        refine W.ite_f d3 ?_
        have hinv' := hinv.more
        generalize b = b' at *
        refine W.callF [0, 1] (bS b' ++ [.var [.d (nI a.k), .d (nI a.a), .d (nI a.b), .d (sD (a.s))]]) (ok14 b' (by have := hinv'.len; omega)) (by decide) rfl rfl rfl rfl rfl rfl ?_
        refine W.loop (fun k fr σ => ∃ q : Nat, fr = [(0, slF acC l), (3, .ptr 1 0), (4, .d (nI i)), (6, slP b'.l), (7, .d (nI ((q + 1 : Nat) : Int)))] ∧ σ = bS b' ++ [.var [.d (nI a.k), .d (nI a.a), .d (nI a.b), .d (sD (a.s))]] ∧ q ≤ b'.l.length ∧ k = b'.l.length - q) b'.l.length
          (Start.of [0, 3, 4, 6, 7] [] (by simp)) ⟨0, rfl, rfl, by omega, rfl⟩ ?_
        rintro k fr σ ⟨q, rfl, rfl, hq, rfl⟩
        refine W.ite (fun d5 => ?_) (fun d5 => ?_)
        · have hql : q + 1 < b'.l.length := by have := of_decide_eq_true d5; omega
          have hbl := hinv'.len
          obtain ⟨p1, hp1⟩ : ∃ x, b'.l[q]? = some x := ⟨_, List.getElem?_eq_getElem (by omega)⟩
          obtain ⟨p2, hp2⟩ : ∃ x, b'.l[q + 1]? = some x := ⟨_, List.getElem?_eq_getElem (by omega)⟩
          have hlt : p1.id < p2.id := by
            obtain ⟨z1, z2⟩ := List.getElem?_eq_some_iff.1 hp1
            obtain ⟨z3, z4⟩ := List.getElem?_eq_some_iff.1 hp2
            have := List.pairwise_iff_getElem.1 hinv'.srt q (q + 1) z1 z3 (by omega)
            rw [z2, z4] at this
            exact this
          have g5 : IntKind.i64.wrap (((q + 1 : Nat) : Int) - 1) = (q : Int) := by rw [wrap64 (by omega) (by omega)]; omega
          refine W.need (by rw [g5]; exact ix_ok pkC_len (by decide) (by omega)) ?_
          refine W.ld (by rw [g5]; exact pkD0 hp1) ?_
          refine W.need (ix_ok pkC_len (by decide) hql) ?_
          refine W.ld (pkD0 hp2) ?_
          have d6 : decide (p1.id ≥ p2.id) = false := decide_eq_false (by omega)
          refine W.ite_f d6 ?_
          have g1 : IntKind.i64.wrap (((q + 1 : Nat) : Int) + 1) = ((q + 1 + 1 : Nat) : Int) := by rw [wrap64 (by omega) (by omega)]; omega
          refine W.ret ⟨_, _, _, ?_, Trim.of [0, 3, 4, 6, 7] [0, 1, 2] (by decide) (by show ∀ i ∈ [0, 1, 2], i < 3; simp) keep3, q + 1, ?_, rfl, by omega, rfl⟩
          · omega
          · rw [← g1]; rfl
        · refine W.ret (W.ret ⟨_, _, _, ?_, Trim.of [0, 3, 4] [0, 1] (by decide) (by show ∀ i ∈ [0, 1], i < 3; simp) keep2, i + 1, b', ?_, rfl, by omega, hinv', rfl⟩)
          · omega
          · rw [← g4]; rfl
  · have hlen := hinv.len
    have kA : ∀ e j, CallOk Try.prog 14 [.ptr 1 0] (bS ⟨b.n + 1, b.l ++ [⟨b.n + 1, 7, 8, xS⟩], e, j⟩) (fun v s => v = slP (b.l ++ [⟨b.n + 1, 7, 8, xS⟩]) ∧ s = bS ⟨b.n + 1, b.l ++ [⟨b.n + 1, 7, 8, xS⟩], e, j⟩) := fun e j => ok14 ⟨b.n + 1, b.l ++ [⟨b.n + 1, 7, 8, xS⟩], e, j⟩ (by simp only [List.length_append, List.length_singleton]; omega)
    have hll : (b.l ++ [(⟨b.n + 1, 7, 8, xS⟩ : Pk)]).length = b.l.length + 1 := by simp
    have hlast : (b.l ++ [(⟨b.n + 1, 7, 8, xS⟩ : Pk)])[b.l.length]? = some ⟨b.n + 1, 7, 8, xS⟩ := by simp
    have g5 : IntKind.i64.wrap (((b.l ++ [(⟨b.n + 1, 7, 8, xS⟩ : Pk)]).length : Int) - 1) = (b.l.length : Int) := by rw [hll, wrap64 (by omega) (by omega)]; omega
    have d7 : decide (((b.l ++ [(⟨b.n + 1, 7, 8, xS⟩ : Pk)]).length : Int) ≥ 1) = true := decide_eq_true (by rw [hll]; omega)
    have d8 : (b.n + 1 == b.n + 1) = true := beq_self_eq_true _
    by_cases hil : i < l.length
    · have c1 : decide ((i : Int) < (l.length : Int)) = true := decide_eq_true (by omega)
      have c2 : decide ((i : Int) < 40) = false := decide_eq_false (by omega)
      repeat (first | refine W.ite_t rfl ?_ | refine W.ite_f rfl ?_ | refine W.ite_t c1 ?_ | refine W.ite_f c2 ?_)
      refine W.ret ?_
      refine W.callT [0, 1] (fin hinv) (by decide) rfl rfl rfl rfl ?_
      rintro v σ ⟨rfl, e, j, rfl⟩
      refine W.callF [0, 1] (bS ⟨b.n + 1, b.l ++ [⟨b.n + 1, 7, 8, xS⟩], e, j⟩) (kA e j) (by decide) rfl rfl rfl rfl rfl rfl ?_
      refine W.pure ok11 rfl rfl ?_
      repeat (first | refine W.ite_t rfl ?_ | refine W.ite_f rfl ?_ | refine W.ite_t d7 ?_ | refine W.ite_t d8 ?_)
      refine W.need (by rw [g5]; exact ix_ok pkC_len (by decide) (by rw [hll]; omega)) ?_
      repeat (first | refine W.ite_t rfl ?_ | refine W.ite_f rfl ?_ | refine W.ite_t d7 ?_ | refine W.ite_t d8 ?_)
      refine W.ld (xs := [nI (b.n + 1)]) ?_ ?_
      · rw [g5]; exact pkD0 hlast
      repeat (first | refine W.ite_t rfl ?_ | refine W.ite_f rfl ?_ | refine W.ite_t d7 ?_ | refine W.ite_t d8 ?_)
      refine W.need (by rw [g5]; exact ix_ok pkC_len (by decide) (by rw [hll]; omega)) ?_
      repeat (first | refine W.ite_t rfl ?_ | refine W.ite_f rfl ?_ | refine W.ite_t d7 ?_ | refine W.ite_t d8 ?_)
      refine W.ld (xs := [nI 7]) ?_ ?_
      · rw [g5]; exact pkD1 hlast
      repeat (first | refine W.ite_t rfl ?_ | refine W.ite_f rfl ?_ | refine W.ite_t d7 ?_ | refine W.ite_t d8 ?_)
      exact W.ret (RetQ.pure rfl rfl)
    · have c1 : decide ((i : Int) < (l.length : Int)) = false := decide_eq_false (by omega)
      repeat (first | refine W.ite_t rfl ?_ | refine W.ite_f rfl ?_ | refine W.ite_f c1 ?_)
      refine W.ret ?_
      refine W.callT [0, 1] (fin hinv) (by decide) rfl rfl rfl rfl ?_
      rintro v σ ⟨rfl, e, j, rfl⟩
      refine W.callF [0, 1] (bS ⟨b.n + 1, b.l ++ [⟨b.n + 1, 7, 8, xS⟩], e, j⟩) (kA e j) (by decide) rfl rfl rfl rfl rfl rfl ?_
      refine W.pure ok11 rfl rfl ?_
      repeat (first | refine W.ite_t rfl ?_ | refine W.ite_f rfl ?_ | refine W.ite_t d7 ?_ | refine W.ite_t d8 ?_)
      refine W.need (by rw [g5]; exact ix_ok pkC_len (by decide) (by rw [hll]; omega)) ?_
      repeat (first | refine W.ite_t rfl ?_ | refine W.ite_f rfl ?_ | refine W.ite_t d7 ?_ | refine W.ite_t d8 ?_)
      refine W.ld (xs := [nI (b.n + 1)]) ?_ ?_
      · rw [g5]; exact pkD0 hlast
      repeat (first | refine W.ite_t rfl ?_ | refine W.ite_f rfl ?_ | refine W.ite_t d7 ?_ | refine W.ite_t d8 ?_)
      refine W.need (by rw [g5]; exact ix_ok pkC_len (by decide) (by rw [hll]; omega)) ?_
      repeat (first | refine W.ite_t rfl ?_ | refine W.ite_f rfl ?_ | refine W.ite_t d7 ?_ | refine W.ite_t d8 ?_)
      refine W.ld (xs := [nI 7]) ?_ ?_
      · rw [g5]; exact pkD1 hlast
      repeat (first | refine W.ite_t rfl ?_ | refine W.ite_f rfl ?_ | refine W.ite_t d7 ?_ | refine W.ite_t d8 ?_)
      exact W.ret (RetQ.pure rfl rfl)
end Go.Proofs.Ytemabpapfkplgaa.Bg
