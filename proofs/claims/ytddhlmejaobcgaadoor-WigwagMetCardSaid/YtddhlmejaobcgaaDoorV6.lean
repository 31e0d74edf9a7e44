import Derived.Test.YtddhlmejaobcgaaDoorV5
set_option maxRecDepth 100000
set_option linter.unusedVariables false
set_option linter.unusedSimpArgs false
namespace Go.Proofs.YtddhlmejaobcgaaDoor.Va
open Go Go.Am
def od22 : Ords := []
theorem code22 : codeB Tryd.f22.ntmps od22 (match Tryd.f22.body with | some c => c | none => .skip) = true := by kernel_rfl
/-- A text, cut. -/
def cutN (s : ByteArray) (n : Nat) : ByteArray := if s.size > n then s.extract 0 n else s
theorem cutN_le (s : ByteArray) (n : Nat) : (cutN s n).size ≤ n := by
  unfold cutN
  split
  · simp [ByteArray.size_extract]; omega
  · omega
theorem ok22 (s : ByteArray) (n : Nat) : Go.Am.Pure Tryd.prog 22 [.d (sD s), .d (nI n)] (.d (sD (cutN s n))) := by
  refine CallOk.of tysOk mixed od22 Tryd.func22 rfl rfl code22 ?_
  refine W.ite (fun h => ?_) (fun h => ?_)
  · have h1 : (s.size : Int) > n := of_decide_eq_true h
    refine W.need ⟨by omega, by omega⟩ ?_
    refine W.ret (RetQ.pure rfl ?_)
    have : cutN s n = s.extract 0 n := by unfold cutN; rw [if_pos (by omega)]
    rw [this]
    rfl
  · have h1 : ¬ (s.size : Int) > n := of_decide_eq_false h
    refine W.ret (RetQ.pure rfl ?_)
    have : cutN s n = s := by unfold cutN; rw [if_neg (by omega)]
    rw [this]
    rfl
theorem atC_one (a : Att) : ∀ d ∈ atC a, d.one = true := by
  intro d h
  simp only [atC, List.mem_cons, List.not_mem_nil, or_false] at h
  rcases h with rfl | rfl | rfl | rfl <;> rfl
theorem prC_one (a : Prd) : ∀ d ∈ prC a, d.one = true := by
  intro d h
  simp only [prC, List.mem_cons, List.not_mem_nil, or_false] at h
  rcases h with rfl | rfl | rfl | rfl | rfl <;> rfl
theorem vaC_one (a : Val) : ∀ d ∈ vaC a, d.one = true := by
  intro d h
  simp only [vaC, List.mem_cons, List.not_mem_nil, or_false] at h
  rcases h with rfl | rfl <;> rfl
def od5 : Ords := []
theorem code5 : codeB Tryd.f5.ntmps od5 (match Tryd.f5.body with | some c => c | none => .skip) = true := by kernel_rfl
def cutA20 (a : Att) : Att := { a with nm := cutN a.nm 20 }
/-- The first six attributes, their names cut. -/
def att6 (s : List Att) : List Att := (s.take 6).map cutA20
theorem att6_len (s : List Att) : (att6 s).length ≤ 6 := by simp [att6]; omega
theorem take_succ_of {α β : Type} {f : α → β} {l : List α} {i : Nat} {a : α} (h : l[i]? = some a) : (l.take (i + 1)).map f = (l.take i).map f ++ [f a] := by
  obtain ⟨h1, h2⟩ := List.getElem?_eq_some_iff.1 h
  rw [List.take_add_one, List.map_append, h]
  rfl
set_option maxHeartbeats 4000000 in
theorem ok5 (s : List Att) : Go.Am.Pure Tryd.prog 5 [slF atC s] (.tuple [slF atC (att6 s), slF atC (att6 s)]) := by
  refine CallOk.of tysOk mixed od5 Tryd.func5 rfl rfl code5 ?_
  have fin : ∀ {L : List Att}, L = att6 s → RetQ ([] : Store).length (fun v s' => v = .tuple [slF atC (att6 s), slF atC (att6 s)] ∧ s' = []) .ret [(0, mkRet [.vec 0 L.length, .vec 1 L.length])] [.vec 4 L.length (flat atC L), .vec 4 L.length (flat atC L)] := fun {L} h => by
    subst h
    refine RetQ.part [] (by decide) (by simp) (by simp) ⟨?_, rfl⟩
    show AV.tuple [.d (.sl (att6 s).length ((flat atC (att6 s)).take ((att6 s).length * 4))), .d (.sl (att6 s).length ((flat atC (att6 s)).take ((att6 s).length * 4)))] = _
    rw [flat_all atC_len]
    rfl
  refine W.loop (fun k fr σ => ∃ (i : Nat) (L : List Att), fr = [(0, slF atC s), (4, .vec 0 L.length), (5, .vec 1 L.length), (6, .d (nI i))] ∧ σ = [.vec 4 L.length (flat atC L), .vec 4 L.length (flat atC L)] ∧ i ≤ s.length ∧ i ≤ 6 ∧ L = (s.take i).map cutA20 ∧ k = 6 - i) 6
    (Start.of [0, 4, 5, 6] [] (by simp)) ⟨0, [], rfl, rfl, by omega, by omega, by simp, rfl⟩ ?_
  rintro k fr σ ⟨i, L, rfl, rfl, hi, hi6, hL, rfl⟩
  have hlen : L.length = i := by rw [hL]; simp; omega
  have over : ¬ ((i : Int) < s.length ∧ (i : Int) < 6) → L = att6 s := fun h => by
    rw [hL]
    unfold att6
    congr 1
    by_cases h6 : i = 6
    · rw [h6]
    · have : i = s.length := by omega
      rw [List.take_of_length_le (by omega), List.take_of_length_le (by omega)]
  refine W.ite (fun c1 => ?_) (fun c1 => ?_)
  · have h1 := of_decide_eq_true c1
    repeat (first | refine W.ite_t rfl ?_ | refine W.ite_f rfl ?_ | refine W.ite_t c1 ?_)
    refine W.ite (fun c2 => ?_) (fun c2 => ?_)
    · have h2 := of_decide_eq_true c2
      obtain ⟨a, ha⟩ : ∃ a, s[i]? = some a := ⟨_, List.getElem?_eq_getElem (by omega)⟩
      refine W.need (ix_ok atC_len (by decide) (by omega)) ?_
      refine W.ld (atE ha) ?_
      refine W.pure (ok22 a.nm 20) rfl rfl ?_
      refine W.alt_l ?_
      refine W.need ⟨rfl, rfl, rfl, by omega, by omega, atC_one (cutA20 a)⟩ ?_
      refine W.alt_l ?_
      refine W.need ⟨rfl, rfl, rfl, by omega, by omega, atC_one (cutA20 a)⟩ ?_
      have g1 : IntKind.i64.wrap ((i : Int) + 1) = ((i + 1 : Nat) : Int) := by rw [wrap64 (by omega) (by omega)]; rfl
      have hl1 : (L ++ [cutA20 a]).length = L.length + 1 := by simp
      have hf1 : flat atC (L ++ [cutA20 a]) = flat atC L ++ atC (cutA20 a) := by rw [flat_append]; simp [flat]
      refine W.ret ⟨_, _, _, ?_, Trim.of [0, 4, 5, 6] [0, 1] (by decide) (by simp) (by intro j hj; have : j = 0 ∨ j = 1 := (by simp at hj; omega); rcases this with rfl | rfl <;> rfl), i + 1, L ++ [cutA20 a], ?_, ?_, by omega, by omega, ?_, rfl⟩
      · omega
      · rw [hl1, ← g1]; rfl
      · rw [hl1, hf1]; rfl
      · rw [take_succ_of ha, hL]
    · have h2 := of_decide_eq_false c2
      exact W.ret (W.ret (fin (over (by omega))))
  · have h1 := of_decide_eq_false c1
    repeat (first | refine W.ite_t rfl ?_ | refine W.ite_f rfl ?_ | refine W.ite_f c1 ?_)
    exact W.ret (W.ret (fin (over (by omega))))
def od6 : Ords := []
theorem code6 : codeB Tryd.f6.ntmps od6 (match Tryd.f6.body with | some c => c | none => .skip) = true := by kernel_rfl
def cutP20 (p : Prd) : Prd := { p with nm := cutN p.nm 20, str := cutN p.str 50 }
/-- The first six predicates, their texts cut. -/
def prd6 (f : List Prd) : List Prd := (f.take 6).map cutP20
theorem prd6_len (s : List Prd) : (prd6 s).length ≤ 6 := by simp [prd6]; omega
set_option maxHeartbeats 4000000 in
theorem ok6 (s : List Prd) : Go.Am.Pure Tryd.prog 6 [slF prC s] (.tuple [slF prC (prd6 s), slF prC (prd6 s)]) := by
  refine CallOk.of tysOk mixed od6 Tryd.func6 rfl rfl code6 ?_
  have fin : ∀ {L : List Prd}, L = prd6 s → RetQ ([] : Store).length (fun v s' => v = .tuple [slF prC (prd6 s), slF prC (prd6 s)] ∧ s' = []) .ret [(0, mkRet [.vec 0 L.length, .vec 1 L.length])] [.vec 5 L.length (flat prC L), .vec 5 L.length (flat prC L)] := fun {L} h => by
    subst h
    refine RetQ.part [] (by decide) (by simp) (by simp) ⟨?_, rfl⟩
    show AV.tuple [.d (.sl (prd6 s).length ((flat prC (prd6 s)).take ((prd6 s).length * 5))), .d (.sl (prd6 s).length ((flat prC (prd6 s)).take ((prd6 s).length * 5)))] = _
    rw [flat_all prC_len]
    rfl
  refine W.loop (fun k fr σ => ∃ (i : Nat) (L : List Prd), fr = [(0, slF prC s), (4, .vec 0 L.length), (5, .vec 1 L.length), (6, .d (nI i))] ∧ σ = [.vec 5 L.length (flat prC L), .vec 5 L.length (flat prC L)] ∧ i ≤ s.length ∧ i ≤ 6 ∧ L = (s.take i).map cutP20 ∧ k = 6 - i) 6
    (Start.of [0, 4, 5, 6] [] (by simp)) ⟨0, [], rfl, rfl, by omega, by omega, by simp, rfl⟩ ?_
  rintro k fr σ ⟨i, L, rfl, rfl, hi, hi6, hL, rfl⟩
  have hlen : L.length = i := by rw [hL]; simp; omega
  have over : ¬ ((i : Int) < s.length ∧ (i : Int) < 6) → L = prd6 s := fun h => by
    rw [hL]
    unfold prd6
    congr 1
    by_cases h6 : i = 6
    · rw [h6]
    · have : i = s.length := by omega
      rw [List.take_of_length_le (by omega), List.take_of_length_le (by omega)]
  refine W.ite (fun c1 => ?_) (fun c1 => ?_)
  · have h1 := of_decide_eq_true c1
    repeat (first | refine W.ite_t rfl ?_ | refine W.ite_f rfl ?_ | refine W.ite_t c1 ?_)
    refine W.ite (fun c2 => ?_) (fun c2 => ?_)
    · have h2 := of_decide_eq_true c2
      obtain ⟨a, ha⟩ : ∃ a, s[i]? = some a := ⟨_, List.getElem?_eq_getElem (by omega)⟩
      refine W.need (ix_ok prC_len (by decide) (by omega)) ?_
      refine W.ld (prE ha) ?_
      refine W.pure (ok22 a.nm 20) rfl rfl ?_
      refine W.pure (ok22 a.str 50) rfl rfl ?_
      refine W.alt_l ?_
      refine W.need ⟨rfl, rfl, rfl, by omega, by omega, prC_one (cutP20 a)⟩ ?_
      refine W.alt_l ?_
      refine W.need ⟨rfl, rfl, rfl, by omega, by omega, prC_one (cutP20 a)⟩ ?_
      have g1 : IntKind.i64.wrap ((i : Int) + 1) = ((i + 1 : Nat) : Int) := by rw [wrap64 (by omega) (by omega)]; rfl
      have hl1 : (L ++ [cutP20 a]).length = L.length + 1 := by simp
      have hf1 : flat prC (L ++ [cutP20 a]) = flat prC L ++ prC (cutP20 a) := by rw [flat_append]; simp [flat]
      refine W.ret ⟨_, _, _, ?_, Trim.of [0, 4, 5, 6] [0, 1] (by decide) (by simp) (by intro j hj; have : j = 0 ∨ j = 1 := (by simp at hj; omega); rcases this with rfl | rfl <;> rfl), i + 1, L ++ [cutP20 a], ?_, ?_, by omega, by omega, ?_, rfl⟩
      · omega
      · rw [hl1, ← g1]; rfl
      · rw [hl1, hf1]; rfl
      · rw [take_succ_of ha, hL]
    · have h2 := of_decide_eq_false c2
      exact W.ret (W.ret (fin (over (by omega))))
  · have h1 := of_decide_eq_false c1
    repeat (first | refine W.ite_t rfl ?_ | refine W.ite_f rfl ?_ | refine W.ite_f c1 ?_)
    exact W.ret (W.ret (fin (over (by omega))))
end Go.Proofs.YtddhlmejaobcgaaDoor.Va
