import Derived.Test.YtddhlmejaobcgaaLK
set_option maxRecDepth 100000
set_option linter.unusedVariables false
set_option linter.unusedSimpArgs false
/- Layer 4: what is sent is what comes (plain facts). -/
namespace Go.Proofs.Ytddhlmejaobcgaa.Lk
open Go Go.Am Co
theorem encT_ne (s : ByteArray) : encT s ≠ [] := by have := enc_ne s.size; unfold encT; simp_all
theorem rd_pk {n c : Int} {s : ByteArray} (hn : -9223372036854775808 ≤ n ∧ n < 9223372036854775808) (hc : -9223372036854775808 ≤ c ∧ c < 9223372036854775808) (hs : s.size ≤ 2000) : rdP (pk n c s) = (n, c, s, none) := by
  have d0 : (pk n c s).data.toList.drop 0 = enc (zz n) ++ (enc (zz c) ++ (encT s ++ [])) := by simp [pk]
  have r1 := readI_enc' d0 hn.1 hn.2
  obtain ⟨_, d1⟩ := drop_len d0 (enc_ne _)
  rw [Nat.zero_add] at r1 d1
  have r2 := readI_enc' d1 hc.1 hc.2
  obtain ⟨_, d2⟩ := drop_len d1 (enc_ne _)
  have r3 := readT_enc (most := 2000) d2 (by rw [if_neg (by decide)]; omega) (by omega)
  obtain ⟨_, d3⟩ := drop_len d2 (encT_ne s)
  unfold rdP
  rw [r1]
  simp only
  rw [r2]
  simp only
  rw [r3]
  simp only [Prod.mk.injEq, true_and]
  unfold doneE
  rw [if_neg]
  have := congrArg List.length d3
  simp only [List.length_drop, List.length_nil] at this
  have hl : (pk n c s).data.toList.length = (pk n c s).size := by simp
  omega
theorem pk_size {n c : Int} {s : ByteArray} (hn : -9223372036854775808 ≤ n ∧ n < 9223372036854775808) (hc : -9223372036854775808 ≤ c ∧ c < 9223372036854775808) (hs : s.size ≤ 1000000) : (pk n c s).size ≤ 30 + s.size := by
  have l1 := enc_len10 (zz_lt hn.1 hn.2)
  have l2 := enc_len10 (zz_lt hc.1 hc.2)
  have l3 := enc_len10 (n := s.size) (by omega)
  show (enc (zz n) ++ enc (zz c) ++ encT s).length ≤ _
  have hl : s.data.toList.length = s.size := by simp
  simp only [encT, List.length_append, hl]
  omega
theorem isE_mt : isE mt = true := beq_self_eq_true _
theorem take_pk {l : Lk} {n c : Int} {s : ByteArray} (hn : -9223372036854775808 ≤ n ∧ n < 9223372036854775808) (hc : -9223372036854775808 ≤ c ∧ c < 9223372036854775808) (hs : s.size ≤ 2000) : takeL l (pk n c s) = takeV l n c s := by
  unfold takeL
  rw [rd_pk hn hc hs]
theorem errC0 : errC 0 = .lit .nilIface := rfl
theorem errC_ne {c : Int} (h : c ≠ 0) : errC c = ftD linkW 0 c := if_neg h
/-! ### calls on a link that is a block of its own -/
theorem subL_ds {σ : Store} {ρ : Nat → Option Nat} : ∀ (r : List D), AV.subL σ ρ (r.map .d) = r.map .d
  | [] => rfl
  | a :: r => by simp only [List.map_cons, AV.subL, AV.sub]; rw [subL_ds r]
theorem subL_lk {σ : Store} {ρ : Nat → Option Nat} (l : Lk) : AV.subL σ ρ (lkC l) = lkC l := rfl
theorem idx_one {i j : Nat} (h : i ≠ j) : idx [i] j = none := idx_none (by simp; omega)
theorem mergeGo_one (i n : Nat) (b : Blk) : ∀ (k : Nat) (σ : Store), (∀ j, j < σ.length → k + j ≠ i) → mergeGo [i] [b] n k σ = σ
  | _, [], _ => rfl
  | k, c :: r, h => by
    have h0 := h 0 (by simp)
    simp only [mergeGo]
    rw [idx_one (i := i) (j := k) (by omega), mergeGo_one i n b (k + 1) r (fun j hj => by have := h (j + 1) (by simpa using hj); omega)]
theorem mergeGo_set (i n : Nat) (b : Blk) : ∀ (k : Nat) (σ : Store), k ≤ i → i < k + σ.length → mergeGo [i] [b] n k σ = σ.set (i - k) (b.sub [b] (back [i] n))
  | k, [], h1, h2 => by simp at h2; omega
  | k, c :: r, h1, h2 => by
    by_cases hk : k = i
    · subst hk
      simp only [mergeGo, Nat.sub_self, List.set_cons_zero]
      rw [mergeGo_one k n b (k + 1) r (fun j hj => by omega)]
      have : idx [k] k = some 0 := by simp [idx, Nat.beq_refl]
      rw [this]
      rfl
    · simp only [mergeGo]
      rw [idx_one (i := i) (j := k) (by omega), mergeGo_set i n b (k + 1) r (by omega) (by simp at h2; omega)]
      rw [show i - k = (i - (k + 1)) + 1 from by omega, List.set_cons_succ]
theorem W.lk {f : FuncId} {r : List D} {σ : Store} {L : List Nat} {a a' : Lk} {x : AV} {k : AV → Store → Res} {Q : AExit → Fr → Store → Prop} (i : Nat) (σ2 : Store) (h : CallOk Try.prog f (.ptr 0 0 :: r.map .d) (lkS a) (fun v s => v = x ∧ s = lkS a'))
    (hσ : σ[i]? = some (.var (lkC a))) (hL : L.all (notIn [i]) = true) (hx : x.closed = true) (hm : σ.set i (.var (lkC a')) = σ2) (hk : W Try.prog (k x σ2) Q) : W Try.prog (.call f (.ptr i 0 :: r.map .d) σ L k) Q := by
  have hi := (List.getElem?_eq_some_iff.1 hσ).1
  have hid : idx [i] i = some 0 := by simp [idx, Nat.beq_refl]
  refine W.callT [i] h (by simp) (by simp [Nat.blt_eq, hi]) hL ?_ ?_ ?_
  · show (match idx [i] i with | some j => AV.ptr j 0 | none => .undef) :: AV.subL σ (idx [i]) (r.map .d) = _
    rw [hid, subL_ds]
  · show [(match σ[i]? with | some b => b | none => .dead).sub σ (idx [i])] = _
    rw [hσ]
    rfl
  · rintro v s ⟨rfl, rfl⟩
    rw [closed_sub hx]
    have : mergeS σ [i] (lkS a') = σ2 := by
      unfold mergeS
      rw [mergeGo_set i σ.length _ 0 σ (by omega) (by omega), ← hm]
      simp [Blk.sub, subL_lk]
    rw [this]
    exact hk
/-! ### as laws have it -/
theorem push_ok {l : Lk} {s : ByteArray} (h1 : s.size ≤ 1970) (h2 : l.q.length < 64) : push l s = (0, { l with q := l.q ++ [s] }) := by
  unfold push
  rw [if_neg (by omega), if_neg (by omega)]
theorem pushOk (l : Lk) (h : l.ok) (s : ByteArray) (h1 : s.size ≤ 1970) (h2 : l.q.length < 64) : CallOk Try.prog 15 (.ptr 0 0 :: [sD s].map .d) (lkS l) (fun v σ => v = .d (.lit .nilIface) ∧ σ = lkS { l with q := l.q ++ [s] }) := by
  have := ok15 l h s
  rw [push_ok h1 h2] at this
  exact this
theorem takeOk (l : Lk) (h : l.ok) {n c : Int} {s : ByteArray} (hn : -9223372036854775808 ≤ n ∧ n < 9223372036854775808) (hc : -9223372036854775808 ≤ c ∧ c < 9223372036854775808) (hs : s.size ≤ 2000) {r : ByteArray × Bool × D} {l' : Lk} (he : takeV l n c s = (r, l')) :
    CallOk Try.prog 37 (.ptr 0 0 :: [sD (pk n c s)].map .d) (lkS l) (fun v σ => v = tkA r ∧ σ = lkS l') := by
  have := ok37 l h (pk n c s) (by have := pk_size hn hc (s := s) (by omega); omega)
  rw [take_pk hn hc hs, he] at this
  exact this
theorem packetsOk (l : Lk) (h : l.ok) {ps : List ByteArray} (he : packets l = ps) : CallOk Try.prog 35 (.ptr 0 0 :: [].map .d) (lkS l) (fun v σ => v = slS ps ∧ σ = lkS { l with o := false }) := by
  subst he
  exact ok35 l h
theorem idleOk (l : Lk) {b : Bool} (he : (decide (l.q = []) && !l.o) = b) : CallOk Try.prog 6 (.ptr 0 0 :: [].map .d) (lkS l) (fun v σ => v = bI b ∧ σ = lkS l) := by
  subst he
  exact ok6 l
abbrev lk0 : Lk := ⟨[], 0, 0, false⟩
theorem Lk.ok.mk' {q : List ByteArray} {a c : Nat} {o : Bool} (h1 : q.length ≤ 64) (h2 : ∀ s ∈ q, s.size ≤ 1970) (h3 : a ≤ 1000000) (h4 : c ≤ 1000000) : (⟨q, a, c, o⟩ : Lk).ok := ⟨h1, h2, h3, h4⟩
end Go.Proofs.Ytddhlmejaobcgaa.Lk
