import Derived.Test.YtemabpapfkplgaaDoorBI
set_option maxRecDepth 100000
set_option linter.unusedVariables false
set_option linter.unusedSimpArgs false
/- The reference of layer 3. -/
namespace Go.Proofs.YtemabpapfkplgaaDoor.Bg
open Go Go.Am
def od6 : Ords := [(8, [0, 1, 2, 3, 4, 5])]
theorem code6 : codeB Tryd.f6.ntmps od6 (match Tryd.f6.body with | some c => c | none => .skip) = true := by kernel_rfl
def od9 : Ords := []
theorem code9 : codeB Tryd.f9.ntmps od9 (match Tryd.f9.body with | some c => c | none => .skip) = true := by kernel_rfl
def od10 : Ords := []
theorem code10 : codeB Tryd.f10.ntmps od10 (match Tryd.f10.body with | some c => c | none => .skip) = true := by kernel_rfl
def od13 : Ords := []
theorem code13 : codeB Tryd.f13.ntmps od13 (match Tryd.f13.body with | some c => c | none => .skip) = true := by kernel_rfl
def od15 : Ords := [(6, [0, 1, 2, 3, 4, 5, 6, 7, 8])]
theorem code15 : codeB Tryd.f15.ntmps od15 (match Tryd.f15.body with | some c => c | none => .skip) = true := by kernel_rfl
abbrev rbD (n : Int) (l : List Pk) : List D := [nI n, .sl l.length (flat pkC l)]
abbrev rbG (n : Int) (l : List Pk) : AV := .d (.agg (rbD n l))
theorem ok6B (n : Int) (l : List Pk) (f t : Int) (s : ByteArray) (h : s.size > 2000) : Go.Am.Pure Tryd.prog 6 [rbG n l, .d (nI f), .d (nI t), .d (sD s)] (.tuple [rbG n l, .d (nI 0), .d (nI 1)]) := by
  refine CallOk.of tysOk mixed od6 Tryd.func6 rfl rfl code6 ?_
  have c1 : decide ((s.size : Int) > 2000) = true := decide_eq_true (by omega)
  refine W.ite_t c1 ?_
  exact W.ret (RetQ.pure rfl rfl)
set_option maxHeartbeats 4000000 in
theorem ok6S (n : Int) (hn : 0 ≤ n ∧ n ≤ 1000000) (l : List Pk) (hl : l.length ≤ 1000) (f t : Int) (s : ByteArray) (h : s.size ≤ 2000) : Go.Am.Pure Tryd.prog 6 [rbG n l, .d (nI f), .d (nI t), .d (sD s)] (.tuple [rbG (n + 1) (l ++ [⟨n + 1, f, t, s⟩]), .d (nI (n + 1)), .d (nI 0)]) := by
  refine CallOk.of tysOk mixed od6 Tryd.func6 rfl rfl code6 ?_
  have c1 : decide ((s.size : Int) > 2000) = false := decide_eq_false (by omega)
  have c2 : decide ((l.length : Int) > 3999) = false := decide_eq_false (by omega)
  have g1 : IntKind.i64.wrap (n + 1) = n + 1 := wrap64 (by omega) (by omega)
  have hfl := pk_flat l
  refine W.ite_f c1 ?_
  refine W.ite_f c2 ?_
  refine W.need ⟨rfl, rfl, by omega, by omega, by omega, flat_one pkC_one l⟩ ?_
  refine W.alt_l ?_
  refine W.need ⟨rfl, rfl, rfl, by omega, by omega, pkC_one ⟨IntKind.i64.wrap (n + 1), f, t, s⟩⟩ ?_
  refine W.ret (RetQ.part [] (by decide) (by simp) (by simp) ⟨?_, rfl⟩)
  show AV.tuple [.d (.agg [nI (IntKind.i64.wrap (n + 1)), D.sl (0 + l.length + 1) ((([] ++ flat pkC l) ++ pkC ⟨IntKind.i64.wrap (n + 1), f, t, s⟩).take ((0 + l.length + 1) * 4))]), .d (nI (IntKind.i64.wrap (n + 1))), .d (nI 0)] = _
  rw [g1, Nat.zero_add, List.nil_append, show flat pkC l ++ pkC ⟨n + 1, f, t, s⟩ = flat pkC (l ++ [⟨n + 1, f, t, s⟩]) from by rw [flat_append]; rfl, show l.length + 1 = (l ++ [(⟨n + 1, f, t, s⟩ : Pk)]).length from by simp, flat_all pkC_len]
def fndV (x : Int) (l : List Pk) : AV := match l.find? (fun p => p.id == x) with
  | some p => .tuple [.d (.agg (pkC p)), bI true]
  | none => .tuple [.d (.agg (pkC pk0)), bI false]
set_option maxHeartbeats 4000000 in
theorem ok9 (n : Int) (l : List Pk) (hl : l.length ≤ 1000) (x : Int) : Go.Am.Pure Tryd.prog 9 [rbG n l, .d (nI x)] (fndV x l) := by
  refine CallOk.of tysOk mixed od9 Tryd.func9 rfl rfl code9 ?_
  refine W.loop (fun k fr σ => ∃ i : Nat, fr = [(1, .d (nI x)), (4, .ptr 1 0), (9, slP l), (10, .d (nI l.length)), (11, .d (nI i))] ∧ σ = [.var [.d (nI n), .d (.sl l.length (flat pkC l))], .var [.d (nI 0), .d (nI 0), .d (nI 0), .d (sD ⟨#[]⟩)]] ∧ i ≤ l.length ∧ (l.drop i).find? (fun p => p.id == x) = l.find? (fun p => p.id == x) ∧ k = l.length - i) l.length
    (Start.of [1, 4, 9, 10, 11] [] (by simp)) ⟨0, rfl, rfl, by omega, rfl, rfl⟩ ?_
  rintro k fr σ ⟨i, rfl, rfl, hi, hx, rfl⟩
  refine W.ite (fun c1 => ?_) (fun c1 => ?_)
  · have hil : i < l.length := by have := of_decide_eq_true c1; omega
    obtain ⟨p, hp⟩ : ∃ x, l[i]? = some x := ⟨_, List.getElem?_eq_getElem hil⟩
    rw [drop_pk hp, List.find?_cons] at hx
    refine W.need (ix_ok pkC_len (by decide) hil) ?_
    refine W.ld (pkD hp) ?_
    refine W.ite (fun c2 => ?_) (fun c2 => ?_)
    · have c2' : (p.id == x) = true := c2
      rw [c2'] at hx
      refine W.ret (W.ret (RetQ.part [] (by decide) (by simp) (by simp) ⟨?_, rfl⟩))
      unfold fndV
      rw [← hx]
      rfl
    · have c2' : (p.id == x) = false := c2
      rw [c2'] at hx
      have g1 : IntKind.i64.wrap ((i : Int) + 1) = ((i + 1 : Nat) : Int) := by rw [wrap64 (by omega) (by omega)]; rfl
      refine W.ret ⟨_, _, _, ?_, Trim.of [1, 4, 9, 10, 11] [0, 1] (by decide) (by simp) keep2, i + 1, ?_, rfl, by omega, hx, rfl⟩
      · omega
      · rw [← g1]; rfl
  · have hil : i = l.length := by have := of_decide_eq_false c1; omega
    rw [List.drop_of_length_le (by omega), List.find?_nil] at hx
    refine W.ret (W.ret (RetQ.part [] (by decide) (by simp) (by simp) ⟨?_, rfl⟩))
    unfold fndV
    rw [← hx]
    rfl
theorem fnd_none {x : Int} {l : List Pk} (h : ∀ p ∈ l, (p.id == x) = false) : fndV x l = .tuple [.d (.agg (pkC pk0)), bI false] := by
  unfold fndV
  rw [List.find?_eq_none.2 fun p hp => by rw [h p hp]; simp]
theorem fnd_some {x : Int} {l : List Pk} {k : Nat} {p : Pk} (hp : l[k]? = some p) (h1 : (p.id == x) = true) (h2 : ∀ m q, m < k → l[m]? = some q → (q.id == x) = false) : fndV x l = .tuple [.d (.agg (pkC p)), bI true] := by
  have : l.find? (fun p => p.id == x) = some p := by
    obtain ⟨z1, z2⟩ := List.getElem?_eq_some_iff.1 hp
    refine List.find?_eq_some_iff_getElem.2 ⟨h1, k, z1, z2, fun m hm => ?_⟩
    have := h2 m _ hm (List.getElem?_eq_getElem (by omega))
    rw [this]
    rfl
  unfold fndV
  rw [this]
theorem rest_pk {t : Pk → Bool} {l : List Pk} {i : Nat} {p : Pk} (hp : l[i]? = some p) (h : t p = false) : rest t (l.take (i + 1)) = rest t (l.take i) ++ [p] := by rw [rest_take hp, if_neg (by rw [h]; simp)]
set_option maxHeartbeats 4000000 in
theorem ok10 (n : Int) (l : List Pk) (hl : l.length ≤ 1000) (x : Int) : Go.Am.Pure Tryd.prog 10 [rbG n l, .d (nI x)] (rbG n (rest (fun p => p.id == x) l)) := by
  refine CallOk.of tysOk mixed od10 Tryd.func10 rfl rfl code10 ?_
  refine W.loop (fun k fr σ => ∃ i : Nat, fr = [(1, .d (nI x)), (2, .ptr 0 0), (4, .ptr 1 0), (5, .vec 2 (rest (fun p => p.id == x) (l.take i)).length), (10, slP l), (11, .d (nI l.length)), (12, .d (nI i))] ∧ σ = [.var [.d (nI n), .d (.sl l.length (flat pkC l))], .var [.d (nI 0), .d (.sl 0 [])], .vec 4 (rest (fun p => p.id == x) (l.take i)).length (flat pkC (rest (fun p => p.id == x) (l.take i)))] ∧ i ≤ l.length ∧ k = l.length - i) l.length
    (Start.of [1, 2, 4, 5, 10, 11, 12] [] (by simp)) ⟨0, rfl, rfl, by omega, rfl⟩ ?_
  rintro k fr σ ⟨i, rfl, rfl, hi, rfl⟩
  refine W.ite (fun c1 => ?_) (fun c1 => ?_)
  · have hil : i < l.length := by have := of_decide_eq_true c1; omega
    obtain ⟨p, hp⟩ : ∃ x, l[i]? = some x := ⟨_, List.getElem?_eq_getElem hil⟩
    have hrl := rest_le (fun p => p.id == x) (l.take i)
    rw [List.length_take, Nat.min_eq_left hi] at hrl
    have g1 : IntKind.i64.wrap ((i : Int) + 1) = ((i + 1 : Nat) : Int) := by rw [wrap64 (by omega) (by omega)]; rfl
    refine W.need (ix_ok pkC_len (by decide) hil) ?_
    refine W.ld (pkD hp) ?_
    by_cases ht : (p.id == x) = true
    · have c2 : (p.id != x) = false := by show (!(p.id == x)) = false; rw [ht]; rfl
      have hr := rest_take (t := fun p => p.id == x) hp
      rw [if_pos ht] at hr
      refine W.ite_f c2 ?_
      refine W.ret ⟨_, _, _, ?_, Trim.of [1, 2, 4, 5, 10, 11, 12] [0, 1, 2] (by decide) (by simp) keep3, i + 1, ?_, ?_, by omega, rfl⟩
      · omega
      · rw [hr, ← g1]; rfl
      · rw [hr]; rfl
    · have ht' : (p.id == x) = false := by simpa using ht
      have c2 : (p.id != x) = true := by show (!(p.id == x)) = true; rw [ht']; rfl
      have hr := rest_pk (t := fun p => p.id == x) hp ht'
      have hr2 : (rest (fun p => p.id == x) (l.take (i + 1))).length = (rest (fun p => p.id == x) (l.take i)).length + 1 := by rw [hr]; simp
      refine W.ite_t c2 ?_
      refine W.alt_l ?_
      refine W.need ⟨rfl, rfl, rfl, by omega, by omega, pkC_one p⟩ ?_
      refine W.ret ⟨_, _, _, ?_, Trim.of [1, 2, 4, 5, 10, 11, 12] [0, 1, 2] (by decide) (by show ∀ i ∈ [0, 1, 2], i < 4; simp) keep3, i + 1, ?_, ?_, by omega, rfl⟩
      · omega
      · rw [hr2, ← g1]; rfl
      · rw [hr2, hr, flat_append]; rfl
  · have hil : i = l.length := by have := of_decide_eq_false c1; omega
    subst hil
    refine W.ret (W.ret (RetQ.part [] (by decide) (by simp) (by simp) ⟨?_, rfl⟩))
    show AV.d (.agg [nI n, D.sl (rest (fun p => p.id == x) (l.take l.length)).length ((flat pkC (rest (fun p => p.id == x) (l.take l.length))).take ((rest (fun p => p.id == x) (l.take l.length)).length * 4))]) = _
    rw [flat_all pkC_len, List.take_length]
set_option maxHeartbeats 4000000 in
theorem ok13 (n : Int) (l : List Pk) (hl : l.length ≤ 1000) (x : Int) : Go.Am.Pure Tryd.prog 13 [rbG n l, .d (nI x)] (rbG n (rest (fun p => p.to == x) l)) := by
  refine CallOk.of tysOk mixed od13 Tryd.func13 rfl rfl code13 ?_
  refine W.loop (fun k fr σ => ∃ i : Nat, fr = [(1, .d (nI x)), (2, .ptr 0 0), (4, .ptr 1 0), (5, .vec 2 (rest (fun p => p.to == x) (l.take i)).length), (10, slP l), (11, .d (nI l.length)), (12, .d (nI i))] ∧ σ = [.var [.d (nI n), .d (.sl l.length (flat pkC l))], .var [.d (nI 0), .d (.sl 0 [])], .vec 4 (rest (fun p => p.to == x) (l.take i)).length (flat pkC (rest (fun p => p.to == x) (l.take i)))] ∧ i ≤ l.length ∧ k = l.length - i) l.length
    (Start.of [1, 2, 4, 5, 10, 11, 12] [] (by simp)) ⟨0, rfl, rfl, by omega, rfl⟩ ?_
  rintro k fr σ ⟨i, rfl, rfl, hi, rfl⟩
  refine W.ite (fun c1 => ?_) (fun c1 => ?_)
  · have hil : i < l.length := by have := of_decide_eq_true c1; omega
    obtain ⟨p, hp⟩ : ∃ x, l[i]? = some x := ⟨_, List.getElem?_eq_getElem hil⟩
    have hrl := rest_le (fun p => p.to == x) (l.take i)
    rw [List.length_take, Nat.min_eq_left hi] at hrl
    have g1 : IntKind.i64.wrap ((i : Int) + 1) = ((i + 1 : Nat) : Int) := by rw [wrap64 (by omega) (by omega)]; rfl
    refine W.need (ix_ok pkC_len (by decide) hil) ?_
    refine W.ld (pkD hp) ?_
    by_cases ht : (p.to == x) = true
    · have c2 : (p.to != x) = false := by show (!(p.to == x)) = false; rw [ht]; rfl
      have hr := rest_take (t := fun p => p.to == x) hp
      rw [if_pos ht] at hr
      refine W.ite_f c2 ?_
      refine W.ret ⟨_, _, _, ?_, Trim.of [1, 2, 4, 5, 10, 11, 12] [0, 1, 2] (by decide) (by simp) keep3, i + 1, ?_, ?_, by omega, rfl⟩
      · omega
      · rw [hr, ← g1]; rfl
      · rw [hr]; rfl
    · have ht' : (p.to == x) = false := by simpa using ht
      have c2 : (p.to != x) = true := by show (!(p.to == x)) = true; rw [ht']; rfl
      have hr := rest_pk (t := fun p => p.to == x) hp ht'
      have hr2 : (rest (fun p => p.to == x) (l.take (i + 1))).length = (rest (fun p => p.to == x) (l.take i)).length + 1 := by rw [hr]; simp
      refine W.ite_t c2 ?_
      refine W.alt_l ?_
      refine W.need ⟨rfl, rfl, rfl, by omega, by omega, pkC_one p⟩ ?_
      refine W.ret ⟨_, _, _, ?_, Trim.of [1, 2, 4, 5, 10, 11, 12] [0, 1, 2] (by decide) (by show ∀ i ∈ [0, 1, 2], i < 4; simp) keep3, i + 1, ?_, ?_, by omega, rfl⟩
      · omega
      · rw [hr2, ← g1]; rfl
      · rw [hr2, hr, flat_append]; rfl
  · have hil : i = l.length := by have := of_decide_eq_false c1; omega
    subst hil
    refine W.ret (W.ret (RetQ.part [] (by decide) (by simp) (by simp) ⟨?_, rfl⟩))
    show AV.d (.agg [nI n, D.sl (rest (fun p => p.to == x) (l.take l.length)).length ((flat pkC (rest (fun p => p.to == x) (l.take l.length))).take ((rest (fun p => p.to == x) (l.take l.length)).length * 4))]) = _
    rw [flat_all pkC_len, List.take_length]
set_option maxHeartbeats 4000000 in
theorem ok15 (l : List Pk) (hl : l.length ≤ 1000) : Go.Am.Pure Tryd.prog 15 [slP l, slP l] (.d (nI 0)) := by
  refine CallOk.of tysOk mixed od15 Tryd.func15 rfl rfl code15 ?_
  have c0 : ((l.length : Int) != (l.length : Int)) = false := by simp
  refine W.ite_f c0 ?_
  refine W.loop (fun k fr σ => ∃ i : Nat, fr = [(0, slP l), (1, slP l), (12, .d (nI l.length)), (13, .d (nI i))] ∧ σ = [] ∧ i ≤ l.length ∧ k = l.length - i) l.length
    (Start.of [0, 1, 12, 13] [] (by simp)) ⟨0, rfl, rfl, by omega, rfl⟩ ?_
  rintro k fr σ ⟨i, rfl, rfl, hi, rfl⟩
  refine W.ite (fun c1 => ?_) (fun c1 => ?_)
  · have hil : i < l.length := by have := of_decide_eq_true c1; omega
    obtain ⟨p, hp⟩ : ∃ x, l[i]? = some x := ⟨_, List.getElem?_eq_getElem hil⟩
    refine W.need (ix_ok pkC_len (by decide) hil) ?_
    refine W.ld (pkD hp) ?_
    refine W.need (ix_ok pkC_len (by decide) hil) ?_
    refine W.ld (pkD hp) ?_
    refine W.ite_f (by simp [ba_refl]) ?_
    have g1 : IntKind.i64.wrap ((i : Int) + 1) = ((i + 1 : Nat) : Int) := by rw [wrap64 (by omega) (by omega)]; rfl
    refine W.ret ⟨_, _, _, ?_, Trim.of [0, 1, 12, 13] [] (by decide) (by simp) (by simp), i + 1, ?_, rfl, by omega, rfl⟩
    · omega
    · rw [← g1]; rfl
  · exact W.ret (W.ret (RetQ.pure rfl rfl))
end Go.Proofs.YtemabpapfkplgaaDoor.Bg
