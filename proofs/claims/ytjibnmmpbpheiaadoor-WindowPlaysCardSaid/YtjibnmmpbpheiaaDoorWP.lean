import Derived.Test.YtjibnmmpbpheiaaDoorWQ
import Derived.Test.YtjibnmmpbpheiaaDoorA
set_option maxRecDepth 100000
set_option linter.unusedVariables false
set_option linter.unusedSimpArgs false
/- WindowPlays. -/
namespace Go.Proofs.YtjibnmmpbpheiaaDoor.Wi
open Go Go.Am
def od9 : Ords := []
theorem code9 : codeB Tryd.f9.ntmps od9 (match Tryd.f9.body with | some c => c | none => .skip) = true := by kernel_rfl
def od5 : Ords := [(3, [0, 1, 2, 4, 5, 3, 6, 7])]
theorem code5 : codeB Tryd.f5.ntmps od5 (match Tryd.f5.body with | some c => c | none => .skip) = true := by kernel_rfl
def od3 : Ords := [(8, [0, 1, 2, 3, 4, 5, 6, 7, 8, 9, 10, 11, 1012]), (12, [0, 1, 2, 3, 4, 6, 5, 7, 8, 9, 10, 11, 13, 14, 15, 12, 1016, 17, 18])]
theorem code3 : codeB Tryd.f3.ntmps od3 (match Tryd.f3.body with | some c => c | none => .skip) = true := by kernel_rfl
def evC (e : Ev) : List D := [nI e.1, nI e.2]
theorem evC_len (e : Ev) : (evC e).length = 2 := rfl
theorem evC_one (e : Ev) : ∀ d ∈ evC e, d.one = true := fun d h => by
  simp only [evC, List.mem_cons, List.not_mem_nil, or_false] at h
  rcases h with rfl | rfl <;> rfl
theorem evE {l : List Ev} {i : Nat} {e : Ev} (h : l[i]? = some e) : Elem (flat evC l) [.int .i64, .int .i64] (i * 2) 2 [nI e.1, nI e.2] := Elem.all evC_len h _ rfl ⟨rfl, rfl, True.intro⟩ rfl
abbrev slE (l : List Ev) : AV := slF evC l
theorem take_next {α : Type} {l : List α} {i : Nat} {x : α} (h : l[i]? = some x) : l.take (i + 1) = l.take i ++ [x] := by rw [List.take_add_one, h]; rfl
theorem wrapS {i : Nat} (h : i < 1000000000) : IntKind.i64.wrap ((i : Int) + 1) = ((i + 1 : Nat) : Int) := by rw [wrap64 (by omega) (by omega)]; omega
theorem ok9 (l : List Ev) (p : Int) (hl : l.length ≤ 1000000) : Go.Am.Pure Tryd.prog 9 [slE l, .d (nI p)] (.d (nI (lastOf l p))) := by
  refine CallOk.of tysOk mixed od9 Tryd.func9 rfl rfl code9 ?_
  refine W.loop (fun k fr σ => ∃ i : Nat, fr = [(1, .d (nI p)), (5, .d (nI (lastOf (l.take i) p))), (8, slE l), (9, .d (nI l.length)), (10, .d (nI i))] ∧ σ = [] ∧ i ≤ l.length ∧ k = l.length - i) l.length
    (Start.of [1, 5, 8, 9, 10] [] (by simp)) ⟨0, rfl, rfl, by omega, rfl⟩ ?_
  rintro k fr σ ⟨i, rfl, rfl, hi, rfl⟩
  refine W.ite (fun c1 => ?_) (fun c1 => ?_)
  · have hil : i < l.length := by have := of_decide_eq_true c1; omega
    obtain ⟨e, he⟩ : ∃ e, l[i]? = some e := ⟨_, List.getElem?_eq_getElem hil⟩
    refine W.need (ix_ok evC_len (by decide) hil) ?_
    refine W.ld (evE he) ?_
    have hsn : lastOf (l.take (i + 1)) p = if e.1 = p ∧ e.2 > lastOf (l.take i) p then e.2 else lastOf (l.take i) p := by rw [take_next he, lastOf_snoc]
    cases h1 : (e.1 == p) with
    | false =>
      have p1 : ¬ e.1 = p := by simpa using h1
      rw [if_neg (fun h => p1 h.1)] at hsn
      repeat (first | refine W.ite_f h1 ?_ | refine W.ite_t rfl ?_ | refine W.ite_f rfl ?_)
      refine W.ret ⟨_, _, _, ?_, Trim.of [1, 5, 8, 9, 10] [] (by decide) (by simp) (by simp), i + 1, ?_, rfl, by omega, rfl⟩
      · omega
      · rw [← wrapS (by omega), hsn]; rfl
    | true =>
    have p1 : e.1 = p := by simpa using h1
    cases h2 : decide (e.2 > lastOf (l.take i) p) with
    | false =>
      have p2 := of_decide_eq_false h2
      rw [if_neg (fun h => p2 h.2)] at hsn
      repeat (first | refine W.ite_t h1 ?_ | refine W.ite_f h2 ?_ | refine W.ite_t rfl ?_ | refine W.ite_f rfl ?_)
      refine W.ret ⟨_, _, _, ?_, Trim.of [1, 5, 8, 9, 10] [] (by decide) (by simp) (by simp), i + 1, ?_, rfl, by omega, rfl⟩
      · omega
      · rw [← wrapS (by omega), hsn]; rfl
    | true =>
      have p2 := of_decide_eq_true h2
      rw [if_pos ⟨p1, p2⟩] at hsn
      repeat (first | refine W.ite_t h1 ?_ | refine W.ite_t h2 ?_ | refine W.ite_t rfl ?_ | refine W.ite_f rfl ?_)
      refine W.ret ⟨_, _, _, ?_, Trim.of [1, 5, 8, 9, 10] [] (by decide) (by simp) (by simp), i + 1, ?_, rfl, by omega, rfl⟩
      · omega
      · rw [← wrapS (by omega), hsn]; rfl
  · have hil : i = l.length := by have := of_decide_eq_false c1; omega
    subst hil
    rw [List.take_length]
    exact W.ret (W.ret (RetQ.pure rfl rfl))
theorem last_bd {l : List Ev} (h : ∀ e ∈ l, inR e.1 e.2) (p : Int) : 0 ≤ lastOf l p ∧ lastOf l p ≤ 1073741824 := ⟨last_pos l p, last_le (by decide) p fun e he => (h e he).2.2.2⟩
set_option maxHeartbeats 8000000 in
theorem ok5 (l : List Ev) (h : ∀ e ∈ l, inR e.1 e.2) (hl : l.length ≤ 100000) (p n : Int) :
    Go.Am.Pure Tryd.prog 5 [slE l, .d (.agg [nI p, nI n])] (.tuple [slE (comeR l p n).1, .d (nI (comeR l p n).2.1), .d (nI (comeR l p n).2.2)]) := by
  refine CallOk.of tysOk mixed od5 Tryd.func5 rfl rfl code5 ?_
  unfold comeR
  have fin0 : ∀ {a b : Int} {σ : Store}, RetQ 0 (fun v s => v = .tuple [slE l, .d (nI a), .d (nI b)] ∧ s = []) .ret [(0, mkRet [slE l, .d (nI a), .d (nI b)])] σ := fun {a b σ} => RetQ.pure rfl rfl
  cases d1 : decide (p < 0) with
  | true =>
    have := of_decide_eq_true d1
    rw [if_pos (by intro hr; have := hr.1; omega)]
    repeat (first | refine W.ite_t d1 ?_ | refine W.ite_t rfl ?_ | refine W.ite_f rfl ?_)
    exact W.ret fin0
  | false =>
  cases d2 : decide (p > 31) with
  | true =>
    have := of_decide_eq_true d2
    rw [if_pos (by intro hr; have := hr.2.1; omega)]
    repeat (first | refine W.ite_f d1 ?_ | refine W.ite_t d2 ?_ | refine W.ite_t rfl ?_ | refine W.ite_f rfl ?_)
    exact W.ret fin0
  | false =>
  cases d3 : decide (n < 1) with
  | true =>
    have := of_decide_eq_true d3
    rw [if_pos (by intro hr; have := hr.2.2.1; omega)]
    repeat (first | refine W.ite_f d1 ?_ | refine W.ite_f d2 ?_ | refine W.ite_t d3 ?_ | refine W.ite_t rfl ?_ | refine W.ite_f rfl ?_)
    exact W.ret fin0
  | false =>
  cases d4 : decide (n > 1073741824) with
  | true =>
    have := of_decide_eq_true d4
    rw [if_pos (by intro hr; have := hr.2.2.2; omega)]
    repeat (first | refine W.ite_f d1 ?_ | refine W.ite_f d2 ?_ | refine W.ite_f d3 ?_ | refine W.ite_t d4 ?_ | refine W.ite_t rfl ?_ | refine W.ite_f rfl ?_)
    exact W.ret fin0
  | false =>
  have p1 := of_decide_eq_false d1
  have p2 := of_decide_eq_false d2
  have p3 := of_decide_eq_false d3
  have p4 := of_decide_eq_false d4
  have hr : inR p n := ⟨by omega, by omega, by omega, by omega⟩
  have hb := last_bd h p
  rw [if_neg (by simpa using hr)]
  repeat (first | refine W.ite_f d1 ?_ | refine W.ite_f d2 ?_ | refine W.ite_f d3 ?_ | refine W.ite_f d4 ?_ | refine W.ite_t rfl ?_ | refine W.ite_f rfl ?_)
  refine W.pure (ok9 l p (by omega)) rfl rfl ?_
  have w1 : IntKind.i64.wrap (lastOf l p - n) = lastOf l p - n := wrap64 (by omega) (by omega)
  cases d5 : decide (IntKind.i64.wrap (lastOf l p - n) ≥ 64) with
  | true =>
    have p5 := of_decide_eq_true d5
    rw [w1] at p5
    rw [if_pos (by omega)]
    repeat (first | refine W.ite_t d5 ?_ | refine W.ite_t rfl ?_ | refine W.ite_f rfl ?_)
    exact W.ret fin0
  | false =>
  have p5 := of_decide_eq_false d5
  rw [w1] at p5
  rw [if_neg (by omega)]
  repeat (first | refine W.ite_f d5 ?_ | refine W.ite_t rfl ?_ | refine W.ite_f rfl ?_)
  refine W.loop (fun k fr σ => ∃ i : Nat, fr = [(0, slE l), (3, .ptr 0 0), (38, slE l), (39, .d (nI l.length)), (40, .d (nI i))] ∧ σ = [.var [.d (nI p), .d (nI n)]] ∧ (p, n) ∉ l.take i ∧ i ≤ l.length ∧ k = l.length - i) l.length
    (Start.of [0, 3, 38, 39, 40] [] (by simp)) ⟨0, rfl, rfl, by simp, by omega, rfl⟩ ?_
  rintro k fr σ ⟨i, rfl, rfl, hni, hi, rfl⟩
  refine W.ite (fun c1 => ?_) (fun c1 => ?_)
  · have hil : i < l.length := by have := of_decide_eq_true c1; omega
    obtain ⟨e, he⟩ : ∃ e, l[i]? = some e := ⟨_, List.getElem?_eq_getElem hil⟩
    refine W.need (ix_ok evC_len (by decide) hil) ?_
    refine W.ld (evE he) ?_
    cases h1 : ((e.1 == p) && ((e.2 == n) && true)) with
    | true =>
      have hm : (p, n) ∈ l := by
        simp only [Bool.and_true, Bool.and_eq_true, beq_iff_eq] at h1
        obtain ⟨e1, e2⟩ := e
        simp only at h1
        obtain ⟨rfl, rfl⟩ := h1
        exact List.mem_of_getElem? he
      rw [if_pos hm]
      refine W.ite_t h1 ?_
      exact W.ret (W.ret fin0)
    | false =>
      have hne : ¬ (p, n) = e := fun hh => by subst hh; simp at h1
      refine W.ite_f h1 ?_
      refine W.ret ⟨_, _, _, ?_, Trim.of [0, 3, 38, 39, 40] [0] (by decide) (by simp) (by intro j hj; have : j = 0 := (by simp at hj; omega); subst this; rfl), i + 1, ?_, rfl, ?_, by omega, rfl⟩
      · omega
      · rw [← wrapS (by omega)]; rfl
      · rw [take_next he]
        simp only [List.mem_append, List.mem_singleton, not_or]
        exact ⟨hni, hne⟩
  · have hil : i = l.length := by have := of_decide_eq_false c1; omega
    subst hil
    rw [List.take_length] at hni
    rw [if_neg hni]
    have hfl := flat_length evC_len l
    refine W.ret ?_
    refine W.need ⟨rfl, rfl, ?_, ?_, ?_, flat_one evC_one l⟩ ?_
    · rw [hfl]
    · omega
    · omega
    refine W.alt_l ?_
    refine W.need ⟨rfl, rfl, rfl, ?_, ?_, by intro c hc; simp only [List.mem_cons, List.not_mem_nil, or_false] at hc; rcases hc with rfl | rfl <;> rfl⟩ ?_
    · omega
    · omega
    refine W.ret (RetQ.part [] (by decide) (by simp) (by simp) ⟨?_, rfl⟩)
    show AV.tuple [.d (.sl (0 + l.length + 1) ((([] ++ flat evC l) ++ [nI p, nI n]).take ((0 + l.length + 1) * 2))), _, _] = _
    rw [Nat.zero_add, List.nil_append, show flat evC l ++ [nI p, nI n] = flat evC (l ++ [(p, n)]) from by rw [flat_append]; rfl, show l.length + 1 = (l ++ [(p, n)]).length from by simp, flat_all evC_len]
    rfl
theorem comeR_len (l : List Ev) (p n : Int) : (comeR l p n).1.length ≤ l.length + 1 := by
  unfold comeR
  split
  · simp
  · split
    · simp
    · split <;> simp
theorem comeR_bad {l : List Ev} {p n : Int} (h : ¬ inR p n) : comeR l p n = (l, 0, 1) := if_pos h
/-- The store of the law: the window, the row that nothing is put into, the map. -/
abbrev wpS (s : Wn) : Store := winB 2 s :: .vec 2 0 [] :: winM s
theorem wp2 {T : List Nat} {n : Nat} (h : n = 2) : ∀ i, i < n → (0 :: 1 :: T)[i]? = some i := fun i hi => by
  have : i = 0 ∨ i = 1 := by omega
  rcases this with rfl | rfl <;> rfl
theorem wp3 {T : List Nat} {n : Nat} (h : n = 3) : ∀ i, i < n → (0 :: 1 :: 2 :: T)[i]? = some i := fun i hi => by
  have : i = 0 ∨ i = 1 ∨ i = 2 := by omega
  rcases this with rfl | rfl | rfl <;> rfl
theorem come_tab {s : Wn} {p n : Int} (h : inR p n) (hk : s = none → True) : (∃ t, s = some t) ∨ s = none → ∃ c t2, come s p n = (c, some t2) := by
  intro _
  cases s with
  | none =>
    have hv : comeV (get none p) n = (1, some (n, if n - (get none p).1 < 64 then ((get none p).2 * 2 ^ (n - (get none p).1).toNat) % 18446744073709551616 ||| 1 else 1)) := by
      unfold comeV
      rw [if_pos (by show n > 0; have := h.2.2.1; omega)]
    exact ⟨_, _, come_some hv⟩
  | some t =>
    cases hv : comeV (get (some t) p) n with
    | mk c o =>
      cases o with
      | none => exact ⟨c, t, come_none hv⟩
      | some v => exact ⟨c, _, come_some hv⟩
set_option maxHeartbeats 16000000 in
theorem ok3 (L : List (Int × Int)) : Go.Am.Pure Tryd.prog 3 [slP L] (bI true) := by
  refine CallOk.of tysOk mixed od3 Tryd.func3 rfl rfl code3 ?_
  refine W.pure ok4 rfl rfl ?_
  repeat (first | refine W.ite_t rfl ?_ | refine W.ite_f rfl ?_)
  refine W.loop (fun k fr σ => ∃ (i : Nat) (s : Wn) (x : List Ev), ((i = 0 ∧ s = none ∧ x = [] ∧ fr = [(0, slP L), (3, .ptr 0 0), (4, .vec 1 0), (5, .d (nI i))]) ∨ fr = [(0, slP L), (3, .ptr 0 0), (4, slE x), (5, .d (nI i))]) ∧ σ = wpS s ∧ GoodW s ∧ Knows s x ∧ x.length ≤ i ∧ i ≤ 100 ∧ k = 100 - i) 100
    (Start.of [0, 3, 4, 5] [] (by simp)) ⟨0, none, [], .inl ⟨rfl, rfl, rfl, rfl⟩, rfl, good_none, knows_nil, by simp, by omega, rfl⟩ ?_
  rintro k fr σ ⟨i, s, x, hfr, rfl, hG, hK, hlen, hi, rfl⟩
  cases h1 : decide ((i : Int) < (L.length : Int)) with
  | false =>
    rcases hfr with ⟨hi0, rfl, rfl, rfl⟩ | rfl
    · repeat (first | refine W.ite_f h1 ?_ | refine W.ite_t rfl ?_ | refine W.ite_f rfl ?_)
      exact W.ret (W.ret (RetQ.part [] (by decide) (by simp) (by simp) ⟨rfl, rfl⟩))
    · repeat (first | refine W.ite_f h1 ?_ | refine W.ite_t rfl ?_ | refine W.ite_f rfl ?_)
      exact W.ret (W.ret (RetQ.part [] (by decide) (by simp) (by simp) ⟨rfl, rfl⟩))
  | true =>
  cases h2 : decide ((i : Int) < 100) with
  | false =>
    rcases hfr with ⟨hi0, rfl, rfl, rfl⟩ | rfl
    · have := of_decide_eq_false h2; omega
    · repeat (first | refine W.ite_t h1 ?_ | refine W.ite_f h2 ?_ | refine W.ite_t rfl ?_ | refine W.ite_f rfl ?_)
      exact W.ret (W.ret (RetQ.part [] (by decide) (by simp) (by simp) ⟨rfl, rfl⟩))
  | true =>
  have hil : i < L.length := by have := of_decide_eq_true h1; omega
  have hi100 : i < 100 := by have := of_decide_eq_true h2; omega
  obtain ⟨⟨p, n⟩, hp⟩ : ∃ e, L[i]? = some e := ⟨_, List.getElem?_eq_getElem hil⟩
  have at_ := At.of hp
  have kR := ok5 x hK.r (by omega) (P0 L i) (P1 L i)
  have hcl := comeR_len x (P0 L i) (P1 L i)
  have hlen2 : (comeR x (P0 L i) (P1 L i)).1.length ≤ i + 1 := by omega
  by_cases hr : inR (P0 L i) (P1 L i)
  · obtain ⟨c, t2, hc⟩ := come_tab (s := s) hr (fun _ => True.intro) (by cases s <;> simp)
    have hs := knows_step hK hr
    have hG2 : GoodW (some t2) := by have := come_good (p := P0 L i) hG hr.2.2; rw [hc] at this; exact this
    rw [hc] at hs
    obtain ⟨hw1, hK2, hw3⟩ := hs
    have hw1 : (comeR x (P0 L i) (P1 L i)).2.1 = c := hw1.symm
    have kC := ok6e hG hr hc
    rcases hfr with ⟨hi0, rfl, rfl, rfl⟩ | rfl
    · repeat (first | refine W.ite_t h1 ?_ | refine W.ite_t h2 ?_ | refine W.ite_t rfl ?_ | refine W.ite_f rfl ?_ | refine W.need at_.ix ?_ | refine W.need at_.p0 ?_ | refine W.need at_.n0 ?_ | refine W.need at_.p1 ?_ | refine W.need at_.n1 ?_)
      refine W.callF [] [.var [.d (.lit (.map none))], .vec 2 0 [], .var [.d (nI (P0 L i)), .d (nI (P1 L i))]] (x2 := .tuple [slE (comeR [] (P0 L i) (P1 L i)).1, .d (nI (comeR [] (P0 L i) (P1 L i)).2.1), .d (nI (comeR [] (P0 L i) (P1 L i)).2.2)]) kR (by decide) rfl rfl rfl rfl rfl rfl ?_
      refine W.callF [0] [.var [.map 3], .vec 2 0 [], .var [.d (nI (P0 L i)), .d (nI (P1 L i))], .map true (toE t2)] (x2 := ansC c) kC (by decide) rfl rfl rfl rfl rfl rfl ?_
      have f1 : (c != (comeR [] (P0 L i) (P1 L i)).2.1) = false := by rw [hw1]; simp
      repeat (first | refine W.ite_f f1 ?_ | refine W.ite_t rfl ?_ | refine W.ite_f rfl ?_)
      refine W.pure As.okOfNil rfl rfl ?_
      have f2 : ((0 : Int) != (comeR [] (P0 L i) (P1 L i)).2.2) = false := by rw [hw3]; rfl
      repeat (first | refine W.ite_f f1 ?_ | refine W.ite_f f2 ?_ | refine W.ite_t rfl ?_ | refine W.ite_f rfl ?_)
      refine W.callF [0, 3] [.var [.map 3], .vec 2 0 [], .var [.d (nI (P0 L i)), .d (nI (P1 L i))], .map true (toE t2)] (x2 := .d (nI (get (some t2) (P0 L i)).1)) (ok8 (some t2) (P0 L i)) (by decide) rfl rfl rfl rfl rfl rfl ?_
      repeat (first | refine W.ite_f f1 ?_ | refine W.ite_f f2 ?_ | refine W.ite_t rfl ?_ | refine W.ite_f rfl ?_)
      refine W.pure (ok9 (comeR [] (P0 L i) (P1 L i)).1 (P0 L i) (by omega)) rfl rfl ?_
      have f3 : ((get (some t2) (P0 L i)).1 != lastOf (comeR [] (P0 L i) (P1 L i)).1 (P0 L i)) = false := by rw [hK2.last]; simp
      repeat (first | refine W.ite_f f1 ?_ | refine W.ite_f f2 ?_ | refine W.ite_f f3 ?_ | refine W.ite_t rfl ?_ | refine W.ite_f rfl ?_)
      refine W.ret ⟨_, _, _, ?_, Trim.of [0, 3, 4, 5] [0, 1, 3] (by decide) (by simp) (wp2 rfl), i + 1, some t2, (comeR [] (P0 L i) (P1 L i)).1, ?_, ?_, hG2, hK2, hlen2, by omega, rfl⟩
      · omega
      · rw [← wrapS (by omega)]; exact .inr rfl
      · rfl
    · cases s with
      | none =>
        repeat (first | refine W.ite_t h1 ?_ | refine W.ite_t h2 ?_ | refine W.ite_t rfl ?_ | refine W.ite_f rfl ?_ | refine W.need at_.ix ?_ | refine W.need at_.p0 ?_ | refine W.need at_.n0 ?_ | refine W.need at_.p1 ?_ | refine W.need at_.n1 ?_)
        refine W.callF [] [.var [.d (.lit (.map none))], .vec 2 0 [], .var [.d (nI (P0 L i)), .d (nI (P1 L i))]] (x2 := .tuple [slE (comeR x (P0 L i) (P1 L i)).1, .d (nI (comeR x (P0 L i) (P1 L i)).2.1), .d (nI (comeR x (P0 L i) (P1 L i)).2.2)]) kR (by decide) rfl rfl rfl rfl rfl rfl ?_
        refine W.callF [0] [.var [.map 3], .vec 2 0 [], .var [.d (nI (P0 L i)), .d (nI (P1 L i))], .map true (toE t2)] (x2 := ansC c) kC (by decide) rfl rfl rfl rfl rfl rfl ?_
        have f1 : (c != (comeR x (P0 L i) (P1 L i)).2.1) = false := by rw [hw1]; simp
        repeat (first | refine W.ite_f f1 ?_ | refine W.ite_t rfl ?_ | refine W.ite_f rfl ?_)
        refine W.pure As.okOfNil rfl rfl ?_
        have f2 : ((0 : Int) != (comeR x (P0 L i) (P1 L i)).2.2) = false := by rw [hw3]; rfl
        repeat (first | refine W.ite_f f1 ?_ | refine W.ite_f f2 ?_ | refine W.ite_t rfl ?_ | refine W.ite_f rfl ?_)
        refine W.callF [0, 3] [.var [.map 3], .vec 2 0 [], .var [.d (nI (P0 L i)), .d (nI (P1 L i))], .map true (toE t2)] (x2 := .d (nI (get (some t2) (P0 L i)).1)) (ok8 (some t2) (P0 L i)) (by decide) rfl rfl rfl rfl rfl rfl ?_
        repeat (first | refine W.ite_f f1 ?_ | refine W.ite_f f2 ?_ | refine W.ite_t rfl ?_ | refine W.ite_f rfl ?_)
        refine W.pure (ok9 (comeR x (P0 L i) (P1 L i)).1 (P0 L i) (by omega)) rfl rfl ?_
        have f3 : ((get (some t2) (P0 L i)).1 != lastOf (comeR x (P0 L i) (P1 L i)).1 (P0 L i)) = false := by rw [hK2.last]; simp
        repeat (first | refine W.ite_f f1 ?_ | refine W.ite_f f2 ?_ | refine W.ite_f f3 ?_ | refine W.ite_t rfl ?_ | refine W.ite_f rfl ?_)
        refine W.ret ⟨_, _, _, ?_, Trim.of [0, 3, 4, 5] [0, 1, 3] (by decide) (by simp) (wp2 rfl), i + 1, some t2, (comeR x (P0 L i) (P1 L i)).1, ?_, ?_, hG2, hK2, hlen2, by omega, rfl⟩
        · omega
        · rw [← wrapS (by omega)]; exact .inr rfl
        · rfl
      | some t =>
        repeat (first | refine W.ite_t h1 ?_ | refine W.ite_t h2 ?_ | refine W.ite_t rfl ?_ | refine W.ite_f rfl ?_ | refine W.need at_.ix ?_ | refine W.need at_.p0 ?_ | refine W.need at_.n0 ?_ | refine W.need at_.p1 ?_ | refine W.need at_.n1 ?_)
        refine W.callF [] [.var [.map 2], .vec 2 0 [], .map true (toE t), .var [.d (nI (P0 L i)), .d (nI (P1 L i))]] (x2 := .tuple [slE (comeR x (P0 L i) (P1 L i)).1, .d (nI (comeR x (P0 L i) (P1 L i)).2.1), .d (nI (comeR x (P0 L i) (P1 L i)).2.2)]) kR (by decide) rfl rfl rfl rfl rfl rfl ?_
        refine W.callF [0, 2] [.var [.map 2], .vec 2 0 [], .map true (toE t2), .var [.d (nI (P0 L i)), .d (nI (P1 L i))]] (x2 := ansC c) kC (by decide) rfl rfl rfl rfl rfl rfl ?_
        have f1 : (c != (comeR x (P0 L i) (P1 L i)).2.1) = false := by rw [hw1]; simp
        repeat (first | refine W.ite_f f1 ?_ | refine W.ite_t rfl ?_ | refine W.ite_f rfl ?_)
        refine W.pure As.okOfNil rfl rfl ?_
        have f2 : ((0 : Int) != (comeR x (P0 L i) (P1 L i)).2.2) = false := by rw [hw3]; rfl
        repeat (first | refine W.ite_f f1 ?_ | refine W.ite_f f2 ?_ | refine W.ite_t rfl ?_ | refine W.ite_f rfl ?_)
        refine W.callF [0, 2] [.var [.map 2], .vec 2 0 [], .map true (toE t2), .var [.d (nI (P0 L i)), .d (nI (P1 L i))]] (x2 := .d (nI (get (some t2) (P0 L i)).1)) (ok8 (some t2) (P0 L i)) (by decide) rfl rfl rfl rfl rfl rfl ?_
        repeat (first | refine W.ite_f f1 ?_ | refine W.ite_f f2 ?_ | refine W.ite_t rfl ?_ | refine W.ite_f rfl ?_)
        refine W.pure (ok9 (comeR x (P0 L i) (P1 L i)).1 (P0 L i) (by omega)) rfl rfl ?_
        have f3 : ((get (some t2) (P0 L i)).1 != lastOf (comeR x (P0 L i) (P1 L i)).1 (P0 L i)) = false := by rw [hK2.last]; simp
        repeat (first | refine W.ite_f f1 ?_ | refine W.ite_f f2 ?_ | refine W.ite_f f3 ?_ | refine W.ite_t rfl ?_ | refine W.ite_f rfl ?_)
        refine W.ret ⟨_, _, _, ?_, Trim.of [0, 3, 4, 5] [0, 1, 2] (by decide) (by simp) (wp2 rfl), i + 1, some t2, (comeR x (P0 L i) (P1 L i)).1, ?_, ?_, hG2, hK2, hlen2, by omega, rfl⟩
        · omega
        · rw [← wrapS (by omega)]; exact .inr rfl
        · rfl
  · have hbad := comeR_bad (l := x) hr
    have hK2 : Knows s (comeR x (P0 L i) (P1 L i)).1 := by rw [hbad]; exact hK
    have hG2 := hG
    have kC := ok6_bad s (P0 L i) (P1 L i) hr
    rcases hfr with ⟨hi0, rfl, rfl, rfl⟩ | rfl
    · repeat (first | refine W.ite_t h1 ?_ | refine W.ite_t h2 ?_ | refine W.ite_t rfl ?_ | refine W.ite_f rfl ?_ | refine W.need at_.ix ?_ | refine W.need at_.p0 ?_ | refine W.need at_.n0 ?_ | refine W.need at_.p1 ?_ | refine W.need at_.n1 ?_)
      refine W.callF [] [.var [.d (.lit (.map none))], .vec 2 0 [], .var [.d (nI (P0 L i)), .d (nI (P1 L i))]] (x2 := .tuple [slE (comeR [] (P0 L i) (P1 L i)).1, .d (nI (comeR [] (P0 L i) (P1 L i)).2.1), .d (nI (comeR [] (P0 L i) (P1 L i)).2.2)]) kR (by decide) rfl rfl rfl rfl rfl rfl ?_
      refine W.callF [0] [.var [.d (.lit (.map none))], .vec 2 0 [], .var [.d (nI (P0 L i)), .d (nI (P1 L i))]] (x2 := .tuple [.d (nI 0), .d badE]) kC (by decide) rfl rfl rfl rfl rfl rfl ?_
      have f1 : ((0 : Int) != (comeR [] (P0 L i) (P1 L i)).2.1) = false := by rw [hbad]; rfl
      repeat (first | refine W.ite_f f1 ?_ | refine W.ite_t rfl ?_ | refine W.ite_f rfl ?_)
      refine W.pure (As.okOf ⟨#[119, 105, 110, 100, 111, 119]⟩ 0 1) rfl rfl ?_
      have f2 : ((1 : Int) != (comeR [] (P0 L i) (P1 L i)).2.2) = false := by rw [hbad]; rfl
      repeat (first | refine W.ite_f f1 ?_ | refine W.ite_f f2 ?_ | refine W.ite_t rfl ?_ | refine W.ite_f rfl ?_)
      refine W.callF [0] [.var [.d (.lit (.map none))], .vec 2 0 [], .var [.d (nI (P0 L i)), .d (nI (P1 L i))]] (x2 := .d (nI (get (none) (P0 L i)).1)) (ok8 (none) (P0 L i)) (by decide) rfl rfl rfl rfl rfl rfl ?_
      repeat (first | refine W.ite_f f1 ?_ | refine W.ite_f f2 ?_ | refine W.ite_t rfl ?_ | refine W.ite_f rfl ?_)
      refine W.pure (ok9 (comeR [] (P0 L i) (P1 L i)).1 (P0 L i) (by omega)) rfl rfl ?_
      have f3 : ((get (none) (P0 L i)).1 != lastOf (comeR [] (P0 L i) (P1 L i)).1 (P0 L i)) = false := by rw [hK2.last]; simp
      repeat (first | refine W.ite_f f1 ?_ | refine W.ite_f f2 ?_ | refine W.ite_f f3 ?_ | refine W.ite_t rfl ?_ | refine W.ite_f rfl ?_)
      refine W.ret ⟨_, _, _, ?_, Trim.of [0, 3, 4, 5] [0, 1] (by decide) (by simp) (wp2 rfl), i + 1, none, (comeR [] (P0 L i) (P1 L i)).1, ?_, ?_, hG2, hK2, hlen2, by omega, rfl⟩
      · omega
      · rw [← wrapS (by omega)]; exact .inr rfl
      · rfl
    · cases s with
      | none =>
        repeat (first | refine W.ite_t h1 ?_ | refine W.ite_t h2 ?_ | refine W.ite_t rfl ?_ | refine W.ite_f rfl ?_ | refine W.need at_.ix ?_ | refine W.need at_.p0 ?_ | refine W.need at_.n0 ?_ | refine W.need at_.p1 ?_ | refine W.need at_.n1 ?_)
        refine W.callF [] [.var [.d (.lit (.map none))], .vec 2 0 [], .var [.d (nI (P0 L i)), .d (nI (P1 L i))]] (x2 := .tuple [slE (comeR x (P0 L i) (P1 L i)).1, .d (nI (comeR x (P0 L i) (P1 L i)).2.1), .d (nI (comeR x (P0 L i) (P1 L i)).2.2)]) kR (by decide) rfl rfl rfl rfl rfl rfl ?_
        refine W.callF [0] [.var [.d (.lit (.map none))], .vec 2 0 [], .var [.d (nI (P0 L i)), .d (nI (P1 L i))]] (x2 := .tuple [.d (nI 0), .d badE]) kC (by decide) rfl rfl rfl rfl rfl rfl ?_
        have f1 : ((0 : Int) != (comeR x (P0 L i) (P1 L i)).2.1) = false := by rw [hbad]; rfl
        repeat (first | refine W.ite_f f1 ?_ | refine W.ite_t rfl ?_ | refine W.ite_f rfl ?_)
        refine W.pure (As.okOf ⟨#[119, 105, 110, 100, 111, 119]⟩ 0 1) rfl rfl ?_
        have f2 : ((1 : Int) != (comeR x (P0 L i) (P1 L i)).2.2) = false := by rw [hbad]; rfl
        repeat (first | refine W.ite_f f1 ?_ | refine W.ite_f f2 ?_ | refine W.ite_t rfl ?_ | refine W.ite_f rfl ?_)
        refine W.callF [0] [.var [.d (.lit (.map none))], .vec 2 0 [], .var [.d (nI (P0 L i)), .d (nI (P1 L i))]] (x2 := .d (nI (get (none) (P0 L i)).1)) (ok8 (none) (P0 L i)) (by decide) rfl rfl rfl rfl rfl rfl ?_
        repeat (first | refine W.ite_f f1 ?_ | refine W.ite_f f2 ?_ | refine W.ite_t rfl ?_ | refine W.ite_f rfl ?_)
        refine W.pure (ok9 (comeR x (P0 L i) (P1 L i)).1 (P0 L i) (by omega)) rfl rfl ?_
        have f3 : ((get (none) (P0 L i)).1 != lastOf (comeR x (P0 L i) (P1 L i)).1 (P0 L i)) = false := by rw [hK2.last]; simp
        repeat (first | refine W.ite_f f1 ?_ | refine W.ite_f f2 ?_ | refine W.ite_f f3 ?_ | refine W.ite_t rfl ?_ | refine W.ite_f rfl ?_)
        refine W.ret ⟨_, _, _, ?_, Trim.of [0, 3, 4, 5] [0, 1] (by decide) (by simp) (wp2 rfl), i + 1, none, (comeR x (P0 L i) (P1 L i)).1, ?_, ?_, hG2, hK2, hlen2, by omega, rfl⟩
        · omega
        · rw [← wrapS (by omega)]; exact .inr rfl
        · rfl
      | some t =>
        repeat (first | refine W.ite_t h1 ?_ | refine W.ite_t h2 ?_ | refine W.ite_t rfl ?_ | refine W.ite_f rfl ?_ | refine W.need at_.ix ?_ | refine W.need at_.p0 ?_ | refine W.need at_.n0 ?_ | refine W.need at_.p1 ?_ | refine W.need at_.n1 ?_)
        refine W.callF [] [.var [.map 2], .vec 2 0 [], .map true (toE t), .var [.d (nI (P0 L i)), .d (nI (P1 L i))]] (x2 := .tuple [slE (comeR x (P0 L i) (P1 L i)).1, .d (nI (comeR x (P0 L i) (P1 L i)).2.1), .d (nI (comeR x (P0 L i) (P1 L i)).2.2)]) kR (by decide) rfl rfl rfl rfl rfl rfl ?_
        refine W.callF [0, 2] [.var [.map 2], .vec 2 0 [], .map true (toE t), .var [.d (nI (P0 L i)), .d (nI (P1 L i))]] (x2 := .tuple [.d (nI 0), .d badE]) kC (by decide) rfl rfl rfl rfl rfl rfl ?_
        have f1 : ((0 : Int) != (comeR x (P0 L i) (P1 L i)).2.1) = false := by rw [hbad]; rfl
        repeat (first | refine W.ite_f f1 ?_ | refine W.ite_t rfl ?_ | refine W.ite_f rfl ?_)
        refine W.pure (As.okOf ⟨#[119, 105, 110, 100, 111, 119]⟩ 0 1) rfl rfl ?_
        have f2 : ((1 : Int) != (comeR x (P0 L i) (P1 L i)).2.2) = false := by rw [hbad]; rfl
        repeat (first | refine W.ite_f f1 ?_ | refine W.ite_f f2 ?_ | refine W.ite_t rfl ?_ | refine W.ite_f rfl ?_)
        refine W.callF [0, 2] [.var [.map 2], .vec 2 0 [], .map true (toE t), .var [.d (nI (P0 L i)), .d (nI (P1 L i))]] (x2 := .d (nI (get (some t) (P0 L i)).1)) (ok8 (some t) (P0 L i)) (by decide) rfl rfl rfl rfl rfl rfl ?_
        repeat (first | refine W.ite_f f1 ?_ | refine W.ite_f f2 ?_ | refine W.ite_t rfl ?_ | refine W.ite_f rfl ?_)
        refine W.pure (ok9 (comeR x (P0 L i) (P1 L i)).1 (P0 L i) (by omega)) rfl rfl ?_
        have f3 : ((get (some t) (P0 L i)).1 != lastOf (comeR x (P0 L i) (P1 L i)).1 (P0 L i)) = false := by rw [hK2.last]; simp
        repeat (first | refine W.ite_f f1 ?_ | refine W.ite_f f2 ?_ | refine W.ite_f f3 ?_ | refine W.ite_t rfl ?_ | refine W.ite_f rfl ?_)
        refine W.ret ⟨_, _, _, ?_, Trim.of [0, 3, 4, 5] [0, 1, 2] (by decide) (by simp) (wp2 rfl), i + 1, some t, (comeR x (P0 L i) (P1 L i)).1, ?_, ?_, hG2, hK2, hlen2, by omega, rfl⟩
        · omega
        · rw [← wrapS (by omega)]; exact .inr rfl
        · rfl
end Go.Proofs.YtjibnmmpbpheiaaDoor.Wi
