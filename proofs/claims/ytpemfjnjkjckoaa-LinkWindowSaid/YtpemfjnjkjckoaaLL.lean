import Derived.Test.YtpemfjnjkjckoaaLB
set_option maxRecDepth 100000
set_option linter.unusedVariables false
set_option linter.unusedSimpArgs false
/- Layer 4: LinkLate. -/
namespace Go.Proofs.Ytpemfjnjkjckoaa.Lk
open Go Go.Am Co
def od4 : Ords := []
theorem code4 : codeB Try.f4.ntmps od4 (match Try.f4.body with | some c => c | none => .skip) = true := by kernel_rfl
theorem tr2 {n : Nat} (h : n = 2) : ∀ i, i < n → [0, 1][i]? = some i := fun i hi => by
  have : i = 0 ∨ i = 1 := by omega
  rcases this with rfl | rfl <;> rfl
theorem tr3 {n : Nat} (h : n = 3) : ∀ i, i < n → [0, 1, 2][i]? = some i := fun i hi => by
  have : i = 0 ∨ i = 1 ∨ i = 2 := by omega
  rcases this with rfl | rfl | rfl <;> rfl
def cutL (T : List ByteArray) (m n : Nat) : List ByteArray := (T.take m).map fun s => cut s n
theorem cutL_len (T : List ByteArray) (m n : Nat) : (cutL T m n).length = min m T.length := by simp [cutL]
theorem cutL_size (T : List ByteArray) (m n : Nat) : ∀ s ∈ cutL T m n, s.size ≤ n := fun s h => by
  obtain ⟨x, _, rfl⟩ := List.mem_map.1 h
  exact cut_size x n
theorem cutL_get {T : List ByteArray} {m n i : Nat} {t : ByteArray} (hi : i < m) (h : T[i]? = some t) : (cutL T m n)[i]? = some (cut t n) := by
  simp [cutL, hi, h]
theorem drop_len' {α : Type} {l : List α} {m : Nat} : ((l.drop m).take 8).length = min 8 (l.length - m) := by simp
theorem wrapS {i : Nat} (h : i < 1000000000) : IntKind.i64.wrap ((i : Int) + 1) = ((i + 1 : Nat) : Int) := by rw [wrap64 (by omega) (by omega)]; omega
theorem ok_take {X : List ByteArray} {i b : Nat} (h : ∀ s ∈ X, s.size ≤ b) : ∀ s ∈ X.take i, s.size ≤ b := fun s hs => h s (List.mem_of_mem_take hs)
theorem ok_drop {X : List ByteArray} {i b : Nat} (h : ∀ s ∈ X, s.size ≤ b) : ∀ s ∈ X.drop i, s.size ≤ b := fun s hs => h s (List.mem_of_mem_drop hs)
theorem lkOk {q : List ByteArray} {a c b : Nat} {o : Bool} (h1 : q.length ≤ 64) (h2 : ∀ s ∈ q, s.size ≤ b) (hb : b ≤ 1970) (h3 : a ≤ 1000000) (h4 : c ≤ 1000000) : (⟨q, a, c, o⟩ : Lk).ok := ⟨h1, fun s hs => Nat.le_trans (h2 s hs) hb, h3, h4⟩
/-- Packets of some of X's texts. -/
def oldOk (N : Nat) (O : List ByteArray) : Prop := ∀ p ∈ O, ∃ (j : Nat) (s : ByteArray), j < N ∧ s.size ≤ 50 ∧ p = pk (j : Int) 0 s
theorem oldOk.snoc {N : Nat} {O : List ByteArray} (h : oldOk N O) {j : Nat} {s : ByteArray} (h1 : j < N) (h2 : s.size ≤ 50) : oldOk N (O ++ [pk (j : Int) 0 s]) := fun p hp => by
  rcases List.mem_append.1 hp with hp | hp
  · exact h p hp
  · exact ⟨j, s, h1, h2, List.mem_singleton.1 hp⟩
set_option maxHeartbeats 8000000 in
theorem ok4 (T : List ByteArray) : Go.Am.Pure Try.prog 4 [slS T] (bI true) := by
  refine CallOk.of tysOk mixed od4 Try.func4 rfl rfl code4 ?_
  have hXl := cutL_len T 30 50
  have hXs := cutL_size T 30 50
  have hXg := fun i t => @cutL_get T 30 50 i t
  generalize cutL T 30 50 = X at hXl hXs hXg
  refine W.loop (fun k fr σ => ∃ i : Nat, fr = [(0, slS T), (3, .ptr 0 0), (4, .ptr 1 0), (5, .vec 2 0), (6, .d (nI i)), (7, .d (nI i))] ∧ σ = [.var (lkC ⟨X.take i, 0, 0, false⟩), .var (lkC lk0), .vec 1 0 []] ∧ i ≤ X.length ∧ k = X.length - i) X.length
    (Start.of [0, 3, 4, 5, 6, 7] [] (by simp)) ⟨0, rfl, rfl, by omega, rfl⟩ ?_
  rintro k fr σ ⟨i, rfl, rfl, hi, rfl⟩
  cases h1 : decide ((i : Int) < (T.length : Int)) <;> cases h2 : decide ((i : Int) < 30)
  case true.true =>
    have p1 := of_decide_eq_true h1
    have p2 := of_decide_eq_true h2
    have hil : i < X.length := by omega
    obtain ⟨t, ht⟩ : ∃ t, T[i]? = some t := ⟨_, List.getElem?_eq_getElem (by omega)⟩
    have hx := hXg i t (by omega) ht
    repeat (first | refine W.ite_t h1 ?_ | refine W.ite_t h2 ?_ | refine W.ite_t rfl ?_ | refine W.ite_f rfl ?_)
    refine W.need (ix_ok (l := T) sC_len (by decide) (by omega)) ?_
    refine W.ld (sE ht) ?_
    refine W.pure (ok8 t 50) rfl rfl ?_
    refine W.lk 0 [.var (lkC ⟨X.take i ++ [cut t 50], 0, 0, false⟩), .var (lkC lk0), .vec 1 0 []] (pushOk ⟨X.take i, 0, 0, false⟩ (lkOk (by simp; omega) (ok_take hXs) (by decide) (by decide) (by decide)) (cut t 50) (by have := cut_size t 50; omega) (by simp; omega)) rfl rfl rfl rfl ?_
    repeat (first | refine W.ite_t rfl ?_ | refine W.ite_f rfl ?_)
    refine W.ret ⟨_, _, _, ?_, Trim.of [0, 3, 4, 5, 6, 7] [0, 1, 2] (by decide) (by simp) (tr3 rfl), i + 1, ?_, ?_, by omega, rfl⟩
    · omega
    · rw [← wrapS (by omega)]; rfl
    · rw [take_next hx]; rfl
  all_goals
    have p1 := h1
    have p2 := h2
    simp only [decide_eq_true_eq, decide_eq_false_iff_not] at p1 p2
    have hil : i = X.length := by omega
    repeat (first | refine W.ite_t h1 ?_ | refine W.ite_t h2 ?_ | refine W.ite_f h1 ?_ | refine W.ite_f h2 ?_ | refine W.ite_t rfl ?_ | refine W.ite_f rfl ?_)
    subst hil
    rw [List.take_length]
    refine W.ret ?_
    clear h1 h2 p1 p2 hi hXg
    refine W.loop (fun k fr σ => ∃ (r m : Nat) (O : List ByteArray), fr = [(3, .ptr 0 0), (4, .ptr 1 0), (5, .vec 2 O.length), (6, .d (nI X.length)), (8, .d (nI r))] ∧ σ = [.var (lkC ⟨X.drop m, m, 0, false⟩), .var (lkC ⟨[], 0, m, false⟩), .vec 1 O.length (flat sC O)] ∧ oldOk X.length O ∧ O.length ≤ 10 * r ∧ m = min (8 * r) X.length ∧ r ≤ 12 ∧ k = 12 - r) 12
      (Start.of [3, 4, 5, 6, 8] [] (by simp)) ⟨0, 0, [], rfl, rfl, (fun p hp => by cases hp), by simp, by simp, by omega, rfl⟩ ?_
    rintro k fr σ ⟨r, m, O, rfl, rfl, hO, hOl, hm, hr, rfl⟩
    refine W.ite (fun c1 => ?_) (fun c1 => ?_)
    · have hr12 : r < 12 := by have := of_decide_eq_true c1; omega
      have hA : (⟨X.drop m, m, 0, false⟩ : Lk).ok := lkOk (by simp; omega) (ok_drop hXs) (by decide) (by omega) (by decide)
      have hB : (⟨[], 0, m, false⟩ : Lk).ok := .mk' (by decide) (by simp) (by decide) (by omega)
      have hpk : packets ⟨X.drop m, m, 0, false⟩ = pks 0 m ((X.drop m).take 8) := by
        by_cases h : X.drop m = []
        · rw [h]; rfl
        · exact packets_q h
      refine W.lk 0 [.var (lkC ⟨X.drop m, m, 0, false⟩), .var (lkC ⟨[], 0, m, false⟩), .vec 1 O.length (flat sC O)] (packetsOk ⟨X.drop m, m, 0, false⟩ hA hpk) rfl rfl rfl rfl ?_
      have hD : ((X.drop m).take 8).length = min 8 (X.length - m) := drop_len'
      have hDg : ∀ (j : Nat) (s : ByteArray), ((X.drop m).take 8)[j]? = some s → s.size ≤ 50 := fun j s h => hXs s (List.mem_of_mem_drop (List.mem_of_mem_take (List.mem_of_getElem? h)))
      generalize (X.drop m).take 8 = D at hD hDg
      have hpl := pks_len 0 D m
      refine W.loop (fun k fr σ => ∃ (j : Nat) (O' : List ByteArray), fr = [(3, .ptr 0 0), (4, .ptr 1 0), (5, .vec 2 O'.length), (6, .d (nI X.length)), (8, .d (nI r)), (44, slS (pks 0 m D)), (45, .d (nI (pks 0 m D).length)), (46, .d (nI j))] ∧ σ = [.var (lkC ⟨X.drop m, m, 0, false⟩), .var (lkC (adv ⟨[], 0, m, false⟩ 0 j)), .vec 1 O'.length (flat sC O')] ∧ oldOk X.length O' ∧ O'.length ≤ 10 * r + j ∧ j ≤ D.length ∧ k = D.length - j) D.length
        (Start.of [3, 4, 5, 6, 8, 44, 45, 46] [] (by simp)) ⟨0, O, rfl, rfl, hO, by omega, by omega, rfl⟩ ?_
      rintro k fr σ ⟨j, O', rfl, rfl, hO', hOl', hj, rfl⟩
      refine W.ite (fun c2 => ?_) (fun c2 => ?_)
      · have hjl : j < D.length := by have := of_decide_eq_true c2; omega
        obtain ⟨s, hs⟩ : ∃ s, D[j]? = some s := ⟨_, List.getElem?_eq_getElem hjl⟩
        have hps := pks_get 0 D m j s hs
        have hsz := hDg j s hs
        have hadv := adv_ok hB (cc := 0) (k := j) (by decide) (by show m + j ≤ _; omega)
        have ht := takeOk (adv ⟨[], 0, m, false⟩ 0 j) hadv (n := ((m + j : Nat) : Int)) (c := ((0 : Nat) : Int)) (s := s) (by omega) (by decide) (by omega) (take_adv ⟨[], 0, m, false⟩ 0 j s)
        refine W.need (ix_ok sC_len (by decide) (by rw [hpl]; exact hjl)) ?_
        refine W.ld (sE hps) ?_
        refine W.need (by decide) ?_
        cases h2 : (((j : Int).tmod 2) == 0)
        · repeat (first | refine W.ite_f h2 ?_ | refine W.ite_t rfl ?_ | refine W.ite_f rfl ?_)
          refine W.lk 1 [.var (lkC ⟨X.drop m, m, 0, false⟩), .var (lkC (adv ⟨[], 0, m, false⟩ 0 (j + 1))), .vec 1 O'.length (flat sC O')] ht rfl rfl rfl rfl ?_
          refine W.ret ⟨_, _, _, ?_, Trim.of [3, 4, 5, 6, 8, 44, 45, 46] [0, 1, 2] (by decide) (by simp) (tr3 rfl), j + 1, O', ?_, ?_, hO', by omega, by omega, rfl⟩
          · omega
          · rw [← wrapS (by omega)]; rfl
          · rfl
        · repeat (first | refine W.ite_t h2 ?_ | refine W.ite_t rfl ?_ | refine W.ite_f rfl ?_)
          refine W.alt_l ?_
          refine W.need ⟨rfl, rfl, rfl, by omega, by omega, by intro c hc; obtain rfl := List.mem_singleton.1 hc; rfl⟩ ?_
          refine W.lk 1 [.var (lkC ⟨X.drop m, m, 0, false⟩), .var (lkC (adv ⟨[], 0, m, false⟩ 0 (j + 1))), .vec 1 (O'.length + 1) (flat sC O' ++ [sD (pk ((m + j : Nat) : Int) ((0 : Nat) : Int) s)])] ht rfl rfl rfl rfl ?_
          refine W.ret ⟨_, _, _, ?_, Trim.of [3, 4, 5, 6, 8, 44, 45, 46] [0, 1, 2] (by decide) (by simp) (tr3 rfl), j + 1, O' ++ [pk ((m + j : Nat) : Int) 0 s], ?_, ?_, hO'.snoc (by omega) hsz, by simp; omega, by omega, rfl⟩
          · omega
          · rw [← wrapS (by omega), @List.length_append _ O' [_]]; rfl
          · rw [flat_append, @List.length_append _ O' [_]]; rfl
      · have hjl : j = D.length := by have := of_decide_eq_false c2; omega
        subst hjl
        have hadv := adv_ok hB (cc := 0) (k := D.length) (by decide) (by show m + D.length ≤ _; omega)
        refine W.ret ?_
        refine W.lk 1 [.var (lkC ⟨X.drop m, m, 0, false⟩), .var (lkC ⟨[], 0, m + D.length, false⟩), .vec 1 O'.length (flat sC O')] (packetsOk (adv ⟨[], 0, m, false⟩ 0 D.length) hadv (adv_note m D.length)) rfl rfl rfl (by rw [adv_quiet]; rfl) ?_
        generalize hd : D.length = d at *
        have hY := note_len m d
        refine W.loop (fun k fr σ => ∃ (j : Nat), fr = [(3, .ptr 0 0), (4, .ptr 1 0), (5, .vec 2 O'.length), (6, .d (nI X.length)), (8, .d (nI r)), (61, slS (note m d)), (62, .d (nI (note m d).length)), (63, .d (nI j))] ∧ σ = [.var (lkC (if j = 0 then ⟨X.drop m, m, 0, false⟩ else ⟨X.drop (m + d), m + d, 0, false⟩)), .var (lkC ⟨[], 0, m + d, false⟩), .vec 1 O'.length (flat sC O')] ∧ j ≤ (note m d).length ∧ k = (note m d).length - j) (note m d).length
          (Start.of [3, 4, 5, 6, 8, 61, 62, 63] [] (by simp)) ⟨0, rfl, rfl, by omega, rfl⟩ ?_
        rintro k fr σ ⟨j, rfl, rfl, hj, rfl⟩
        refine W.ite (fun c3 => ?_) (fun c3 => ?_)
        · have hjl : j < (note m d).length := by have := of_decide_eq_true c3; omega
          obtain ⟨hd0, rfl, hg⟩ := note_get hjl
          refine W.need (ix_ok sC_len (by decide) hjl) ?_
          refine W.ld (sE hg) ?_
          refine W.lk 0 [.var (lkC ⟨X.drop (m + d), m + d, 0, false⟩), .var (lkC ⟨[], 0, m + d, false⟩), .vec 1 O'.length (flat sC O')] (takeOk ⟨X.drop m, m, 0, false⟩ hA (n := -1) (c := ((m + d : Nat) : Int)) (s := mt) (by decide) (by omega) (by decide) (r := (mt, false, .lit .nilIface)) (l' := ⟨X.drop (m + d), m + d, 0, false⟩) ?_) rfl rfl rfl rfl ?_
          · rw [take_note _ (by omega), ack_all (by omega) (by simp; omega), List.drop_drop, show m + (m + d - m) = m + d from by omega]
          refine W.ret ⟨_, _, _, ?_, Trim.of [3, 4, 5, 6, 8, 61, 62, 63] [0, 1, 2] (by decide) (by simp) (tr3 rfl), 0 + 1, ?_, ?_, by omega, rfl⟩
          · omega
          · rfl
          · rfl
        · have hjl : j = (note m d).length := by have := of_decide_eq_false c3; omega
          have hfin : (if j = 0 then (⟨X.drop m, m, 0, false⟩ : Lk) else ⟨X.drop (m + d), m + d, 0, false⟩) = ⟨X.drop (m + d), m + d, 0, false⟩ := by
            split
            · rename_i h0
              have := hY.2 (by omega)
              subst this
              rfl
            · rfl
          refine W.ret ?_
          refine W.ret ⟨_, _, _, ?_, Trim.of [3, 4, 5, 6, 8] [0, 1, 2] (by decide) (by simp) (tr3 rfl), r + 1, m + d, O', ?_, ?_, hO', by omega, by omega, by omega, rfl⟩
          · omega
          · rw [← wrapS (by omega)]; rfl
          · rw [hfin]; rfl
    · have hr12 : r = 12 := by have := of_decide_eq_false c1; omega
      subst hr12
      have hmN : m = X.length := by omega
      subst hmN
      have n1 : (((X.length : Nat) : Int) != ((X.length : Nat) : Int)) = false := by simp
      have n2 : (((X.drop X.length).length : Int) != 0) = false := by simp
      refine W.ret ?_
      repeat (first | refine W.ite_f n1 ?_ | refine W.ite_f n2 ?_ | refine W.ite_t rfl ?_ | refine W.ite_f rfl ?_)
      refine W.loop (fun k fr σ => ∃ (j : Nat) (o : Bool), fr = [(4, .ptr 1 0), (6, .d (nI X.length)), (80, .vec 2 O.length), (81, .d (nI O.length)), (82, .d (nI j))] ∧ σ = [.var (lkC ⟨X.drop X.length, X.length, 0, false⟩), .var (lkC ⟨[], 0, X.length, o⟩), .vec 1 O.length (flat sC O)] ∧ j ≤ O.length ∧ k = O.length - j) O.length
        (Start.of [4, 6, 80, 81, 82] [] (by simp)) ⟨0, false, rfl, rfl, by omega, rfl⟩ ?_
      rintro k fr σ ⟨j, o, rfl, rfl, hj, rfl⟩
      refine W.ite (fun c4 => ?_) (fun c4 => ?_)
      · have hjl : j < O.length := by have := of_decide_eq_true c4; omega
        obtain ⟨p, hp⟩ : ∃ p, O[j]? = some p := ⟨_, List.getElem?_eq_getElem hjl⟩
        obtain ⟨q, s, hq, hs, rfl⟩ := hO p (List.mem_of_getElem? hp)
        have hB : (⟨[], 0, X.length, o⟩ : Lk).ok := .mk' (by decide) (by simp) (by decide) (by omega)
        refine W.need (ix_row sC_len (by decide) hjl) ?_
        refine W.ld ((sE hp).row sC_len) ?_
        refine W.lk 1 [.var (lkC ⟨X.drop X.length, X.length, 0, false⟩), .var (lkC ⟨[], 0, X.length, true⟩), .vec 1 O.length (flat sC O)] (takeOk ⟨[], 0, X.length, o⟩ hB (n := (q : Int)) (c := 0) (s := s) (by omega) (by decide) (by omega) (r := (mt, false, .lit .nilIface)) (l' := ⟨[], 0, X.length, true⟩) ?_) rfl rfl rfl rfl ?_
        · rw [take_old _ (by omega) (by show (q : Int) < (X.length : Int); omega) (by decide), ack_none (by simp)]
        have n3 : (!(mt.toList == mt.toList)) = false := toList_bne mt
        repeat (first | refine W.ite_f n3 ?_ | refine W.ite_f n1 ?_ | refine W.ite_t rfl ?_ | refine W.ite_f rfl ?_)
        refine W.ret ⟨_, _, _, ?_, Trim.of [4, 6, 80, 81, 82] [0, 1, 2] (by decide) (by simp) (tr3 rfl), j + 1, true, ?_, ?_, by omega, rfl⟩
        · omega
        · rw [← wrapS (by omega)]; rfl
        · rfl
      · refine W.ret ?_
        refine W.pure ok12 rfl rfl ?_
        exact W.ret (RetQ.pure rfl rfl)
end Go.Proofs.Ytpemfjnjkjckoaa.Lk
