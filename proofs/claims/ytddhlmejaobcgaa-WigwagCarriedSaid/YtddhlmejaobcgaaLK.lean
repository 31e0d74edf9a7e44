import Derived.Test.YtddhlmejaobcgaaCQ
set_option maxRecDepth 100000
set_option linter.unusedVariables false
set_option linter.unusedSimpArgs false
/- The functions of layer 4 (link). -/
namespace Go.Proofs.Ytddhlmejaobcgaa.Lk
open Go Go.Am Co
def od38 : Ords := []
theorem code38 : codeB Try.f38.ntmps od38 (match Try.f38.body with | some c => c | none => .skip) = true := by kernel_rfl
def od39 : Ords := []
theorem code39 : codeB Try.f39.ntmps od39 (match Try.f39.body with | some c => c | none => .skip) = true := by kernel_rfl
def od58 : Ords := []
theorem code58 : codeB Try.f58.ntmps od58 (match Try.f58.body with | some c => c | none => .skip) = true := by kernel_rfl
def od15 : Ords := []
theorem code15 : codeB Try.f15.ntmps od15 (match Try.f15.body with | some c => c | none => .skip) = true := by kernel_rfl
def od35 : Ords := [(5, [0, 1, 2, 3, 4, 5, 6, 7, 8, 9, 10, 11, 12, 13, 14, 15, 16, 17, 1018, 1019, 1020, 21])]
theorem code35 : codeB Try.f35.ntmps od35 (match Try.f35.body with | some c => c | none => .skip) = true := by kernel_rfl
def od37 : Ords := []
theorem code37 : codeB Try.f37.ntmps od37 (match Try.f37.body with | some c => c | none => .skip) = true := by kernel_rfl
def od6 : Ords := []
theorem code6 : codeB Try.f6.ntmps od6 (match Try.f6.body with | some c => c | none => .skip) = true := by kernel_rfl
def od16 : Ords := [(6, [0, 1, 2, 3, 4, 5, 6, 7, 8])]
theorem code16 : codeB Try.f16.ntmps od16 (match Try.f16.body with | some c => c | none => .skip) = true := by kernel_rfl
/-! ### texts -/
def sC (s : ByteArray) : List D := [sD s]
theorem sC_len (s : ByteArray) : (sC s).length = 1 := rfl
theorem sC_one (s : ByteArray) : ∀ d ∈ sC s, d.one = true := fun d h => by
  obtain rfl := List.mem_singleton.1 h
  rfl
theorem sE {l : List ByteArray} {i : Nat} {s : ByteArray} (h : l[i]? = some s) : Elem (flat sC l) [.str] (i * 1) 1 [sD s] := Elem.all sC_len h _ rfl ⟨rfl, True.intro⟩ rfl
theorem sl_len (l : List ByteArray) : (flat sC l).length = l.length := by rw [flat_length sC_len]; simp
abbrev slS (l : List ByteArray) : AV := slF sC l
abbrev mt : ByteArray := ⟨#[]⟩
abbrev linkW : ByteArray := ⟨#[108, 105, 110, 107]⟩
theorem maxI : IntKind.i64.max = 9223372036854775807 := by decide
theorem ok38 (c : Int) : Go.Am.Pure Try.prog 38 [.d (nI c)] (.d (ftD linkW 0 c)) := by
  refine CallOk.of tysOk mixed od38 Try.func38 rfl rfl code38 ?_
  exact W.ret (RetQ.pure rfl rfl)
theorem ok39 (l : List ByteArray) (hl : l.length ≤ 1000000) : Go.Am.Pure Try.prog 39 [slS l] (slS l) := by
  refine CallOk.soft ?_
  refine CallOk.of tysOk mixed od39 Try.func39 rfl rfl code39 ?_
  cases l with
  | nil =>
    refine W.ite_t rfl ?_
    refine W.both ?_ ?_
    · refine W.ite_t rfl ?_
      exact W.ret (RetQ.soft rfl rfl)
    · refine W.ite_f rfl ?_
      refine W.need ⟨rfl, rfl, rfl, by decide, by decide, by intro c hc; cases hc⟩ ?_
      exact W.ret (RetQ.row rfl rfl)
  | cons s r =>
    refine W.ite_f rfl ?_
    refine W.need (by intro h; cases h) ?_
    refine W.ite_f rfl ?_
    refine W.need ⟨rfl, rfl, ?_, ?_, ?_, flat_one sC_one (s :: r)⟩ ?_
    · rw [sl_len]; simp
    · simp only [List.length_cons] at *; omega
    · simp only [List.length_cons] at *; omega
    refine W.ret (RetQ.row rfl ?_)
    show AV.d (.sl (0 + (s :: r).length) (([] ++ flat sC (s :: r)).take ((0 + (s :: r).length) * 1))) = _
    rw [Nat.zero_add, List.nil_append, flat_all sC_len]
    rfl
/-- A copy that may be appended to. -/
theorem ok39v (l : List ByteArray) (hl : l.length ≤ 1000000) : CallOk Try.prog 39 [slS l] [] (fun v σ => (l = [] ∧ v = .d (.lit (.slice none 0 0)) ∧ σ = []) ∨ (v = .vec 0 l.length ∧ σ = [.vec 1 l.length (flat sC l)])) := by
  refine CallOk.of tysOk mixed od39 Try.func39 rfl rfl code39 ?_
  cases l with
  | nil =>
    refine W.ite_t rfl ?_
    refine W.both ?_ ?_
    · refine W.ite_t rfl ?_
      exact W.ret (RetQ.all (.inl ⟨rfl, rfl, rfl⟩))
    · refine W.ite_f rfl ?_
      refine W.need ⟨rfl, rfl, rfl, by decide, by decide, by intro c hc; cases hc⟩ ?_
      exact W.ret (RetQ.all (.inr ⟨rfl, rfl⟩))
  | cons s r =>
    refine W.ite_f rfl ?_
    refine W.need (by intro h; cases h) ?_
    refine W.ite_f rfl ?_
    refine W.need ⟨rfl, rfl, ?_, ?_, ?_, flat_one sC_one (s :: r)⟩ ?_
    · rw [sl_len]; simp
    · simp only [List.length_cons] at *; omega
    · simp only [List.length_cons] at *; omega
    refine W.ret (RetQ.all (.inr ⟨?_, ?_⟩))
    · show AV.vec 0 (0 + (s :: r).length) = _
      rw [Nat.zero_add]
    · show [Blk.vec 1 (0 + (s :: r).length) ([] ++ flat sC (s :: r))] = _
      rw [Nat.zero_add, List.nil_append]
/-! ### packets -/
/-- A packet's bytes. -/
def pk (n c : Int) (s : ByteArray) : ByteArray := ⟨(enc (zz n) ++ enc (zz c) ++ encT s).toArray⟩
set_option maxHeartbeats 4000000 in
theorem ok58 (n c : Int) (s : ByteArray) (hn : -9223372036854775808 ≤ n ∧ n < 9223372036854775808) (hc : -9223372036854775808 ≤ c ∧ c < 9223372036854775808) (hs : s.size ≤ 1000000) :
    Go.Am.Pure Try.prog 58 [.d (nI n), .d (nI c), .d (sD s)] (.d (sD (pk n c s))) := by
  refine CallOk.of tysOk mixed od58 Try.func58 rfl rfl code58 ?_
  have l1 := enc_len10 (zz_lt hn.1 hn.2)
  have l2 := enc_len10 (zz_lt hc.1 hc.2)
  have k1 := ok70 [] n hn.1 hn.2 (by decide)
  have k2 := ok70 ([] ++ enc (zz n)) c hc.1 hc.2 (by simp; omega)
  have k3 := ok71 ([] ++ enc (zz n) ++ enc (zz c)) s (by simp; omega)
  have k4 := ok20 ([] ++ enc (zz n) ++ enc (zz c) ++ encT s)
  have e1 := enc_ne (zz n)
  have e2 := enc_ne (zz c)
  have e3 : encT s ≠ [] := by have := enc_ne s.size; unfold encT; simp_all
  refine wr1 (r := [nI n]) (bs := []) rfl k1 (by simp [e1]) ?_
  refine wr1 (r := [nI c]) rfl k2 (by simp [e2]) ?_
  refine wr1 (r := [sD s]) rfl k3 (by simp [e3]) ?_
  refine wr1 (r := []) rfl k4 (by simp) ?_
  exact W.ret (RetQ.pure rfl rfl)
structure Lk where
  q : List ByteArray
  a : Nat
  c : Nat
  o : Bool
abbrev lkC (l : Lk) : List AV := [slS l.q, .d (nI l.a), .d (nI l.c), .d (.lit (.bool l.o))]
abbrev lkS (l : Lk) : Store := [.var (lkC l)]
/-- A link as it may be. -/
structure Lk.ok (l : Lk) : Prop where
  q : l.q.length ≤ 64
  s : ∀ s ∈ l.q, s.size ≤ 1970
  a : l.a ≤ 1000000
  c : l.c ≤ 1000000
theorem lk_one (l : Lk) : ∀ i, i < (lkS l).length → [0][i]? = some i := fun i hi => by
  have : i = 0 := by simp [lkS] at hi; omega
  subst this; rfl
/-- A text is pushed: the code, the link. -/
def push (l : Lk) (s : ByteArray) : Int × Lk := if s.size > 1970 then (1, l) else if l.q.length ≥ 64 then (4, l) else (0, { l with q := l.q ++ [s] })
def errC (c : Int) : D := if c = 0 then .lit .nilIface else ftD linkW 0 c
set_option maxHeartbeats 4000000 in
theorem ok15 (l : Lk) (h : l.ok) (s : ByteArray) : CallOk Try.prog 15 [.ptr 0 0, .d (sD s)] (lkS l) (fun v σ => v = .d (errC (push l s).1) ∧ σ = lkS (push l s).2) := by
  refine CallOk.of tysOk mixed od15 Try.func15 rfl rfl code15 ?_
  have hq := h.q
  unfold push
  refine W.ite (fun c1 => ?_) (fun c1 => ?_)
  · rw [if_pos (by have := of_decide_eq_true c1; omega)]
    refine W.pure (ok38 1) rfl rfl ?_
    exact W.ret (RetQ.all ⟨rfl, rfl⟩)
  rw [if_neg (by have := of_decide_eq_false c1; omega)]
  refine W.ite (fun c2 => ?_) (fun c2 => ?_)
  · rw [if_pos (by have := of_decide_eq_true c2; omega)]
    refine W.pure (ok38 4) rfl rfl ?_
    exact W.ret (RetQ.all ⟨rfl, rfl⟩)
  have h2 := of_decide_eq_false c2
  rw [if_neg (by omega)]
  refine W.callT [] (ok39v l.q (by omega)) (by decide) rfl rfl rfl rfl ?_
  rintro v σ (⟨h0, rfl, rfl⟩ | ⟨rfl, rfl⟩)
  · obtain ⟨q, a, c, o⟩ := l
    obtain rfl : q = [] := h0
    refine W.alt_l ?_
    refine W.need ⟨rfl, by decide, by decide, by intro c hc; obtain rfl := List.mem_singleton.1 hc; rfl⟩ ?_
    refine W.ret (RetQ.part [0] (by decide) (by simp) (lk_one _) ⟨rfl, rfl⟩)
  · refine W.alt_l ?_
    refine W.need ⟨rfl, rfl, rfl, by omega, by omega, by intro c hc; obtain rfl := List.mem_singleton.1 hc; rfl⟩ ?_
    refine W.ret (RetQ.part [0] (by decide) (by simp) (lk_one l) ⟨rfl, ?_⟩)
    show [Blk.var [.d (.sl (l.q.length + 1) ((flat sC l.q ++ [sD s]).take ((l.q.length + 1) * 1))), _, _, _]] = _
    rw [show flat sC l.q ++ [sD s] = flat sC (l.q ++ [s]) from by rw [flat_append]; rfl, show l.q.length + 1 = (l.q ++ [s]).length from by simp, flat_all sC_len]
    rfl
/-! ### what is sent -/
def pks (c : Nat) : Nat → List ByteArray → List ByteArray
  | _, [] => []
  | a, s :: r => pk (a : Int) (c : Int) s :: pks c (a + 1) r
theorem pks_len (c : Nat) : ∀ (l : List ByteArray) (a : Nat), (pks c a l).length = l.length
  | [], _ => rfl
  | _ :: r, a => by simp [pks, pks_len c r (a + 1)]
theorem pks_snoc (c : Nat) (s : ByteArray) : ∀ (l : List ByteArray) (a : Nat), pks c a (l ++ [s]) = pks c a l ++ [pk ((a + l.length : Nat) : Int) (c : Int) s]
  | [], a => rfl
  | x :: r, a => by
    show pk _ _ x :: pks c (a + 1) (r ++ [s]) = _
    rw [pks_snoc c s r (a + 1)]
    simp only [pks, List.cons_append, List.length_cons]
    rw [show a + 1 + r.length = a + (r.length + 1) from by omega]
def packets (l : Lk) : List ByteArray := match l.q with
  | [] => if l.o then [pk (-1) l.c mt] else []
  | _ => pks l.c l.a (l.q.take 8)
theorem take_next {α : Type} {l : List α} {i : Nat} {x : α} (h : l[i]? = some x) : l.take (i + 1) = l.take i ++ [x] := by rw [List.take_add_one, h]; rfl
set_option maxHeartbeats 8000000 in
theorem ok35 (l : Lk) (h : l.ok) : CallOk Try.prog 35 [.ptr 0 0] (lkS l) (fun v σ => v = slS (packets l) ∧ σ = lkS { l with o := false }) := by
  refine CallOk.soft (R := fun v σ => v = slS (packets l) ∧ σ = lkS { l with o := false }) ?_
  refine CallOk.of tysOk mixed od35 Try.func35 rfl rfl code35 ?_
  have hq := h.q
  have ha := h.a
  have hc := h.c
  obtain ⟨m, hm⟩ : ∃ m : Nat, (if (8 : Int) < (l.q.length : Int) then (8 : Int) else (l.q.length : Int)) = (m : Int) := by
    split
    · exact ⟨8, rfl⟩
    · exact ⟨l.q.length, rfl⟩
  have hm8 : m = (l.q.take 8).length := by
    simp only [List.length_take]
    split at hm <;> omega
  refine W.loop (fun k fr σ => ∃ i : Nat, fr = [(0, .ptr 0 0), (10, .d (nI m)), (11, .d (nI i)), (3, .vec 1 i)] ∧ σ = [.var (lkC l), .vec 1 i (flat sC (pks l.c l.a (l.q.take i)))] ∧ i ≤ m ∧ k = m - i) m
    (Start.of [0, 10, 11] [(3, 1)] (by intro p hp; obtain rfl := List.mem_singleton.1 hp; rfl)) ⟨0, ?_, rfl, by omega, rfl⟩ ?_
  · show [(0, AV.ptr 0 0), (10, AV.d (.lit (.int .i64 (if (8 : Int) < (l.q.length : Int) then (8 : Int) else (l.q.length : Int))))), (11, AV.d (nI 0)), (3, AV.vec 1 0)] = _
    rw [hm]; rfl
  rintro k fr σ ⟨i, rfl, rfl, hi, rfl⟩
  refine W.ite (fun c1 => ?_) (fun c1 => ?_)
  · have hil : i < m := by have := of_decide_eq_true c1; omega
    have hiq : i < l.q.length := by have : m ≤ l.q.length := (by rw [hm8]; simp; omega); omega
    obtain ⟨s, hs⟩ : ∃ s, l.q[i]? = some s := ⟨_, List.getElem?_eq_getElem hiq⟩
    have hso := h.s s (List.mem_of_getElem? hs)
    have hl8 : m ≤ 8 := by rw [hm8]; simp; omega
    have kp := ok58 (IntKind.i64.wrap ((l.a : Int) + (i : Int))) l.c s (by rw [wrap64 (by omega) (by omega)]; omega) (by omega) (by omega)
    have wa : IntKind.i64.wrap ((l.a : Int) + (i : Int)) = ((l.a + i : Nat) : Int) := by rw [wrap64 (by omega) (by omega)]; omega
    have wi : IntKind.i64.wrap ((i : Int) + 1) = ((i + 1 : Nat) : Int) := by rw [wrap64 (by omega) (by omega)]; omega
    refine W.need (ix_ok sC_len (by decide) hiq) ?_
    refine W.ld (sE hs) ?_
    refine W.pure kp rfl rfl ?_
    refine W.alt_l ?_
    refine W.need ⟨rfl, rfl, rfl, by omega, by omega, by intro c hc; obtain rfl := List.mem_singleton.1 hc; rfl⟩ ?_
    refine W.ret ⟨_, _, _, ?_, Trim.of [0, 10, 11, 3] [0, 1] (by decide) (by simp) (by intro j hj; have : j = 0 := (by simp at hj; omega); subst this; rfl), i + 1, ?_, ?_, by omega, rfl⟩
    · omega
    · show [(0, AV.ptr 0 0), (10, AV.d (nI m)), (11, AV.d (.lit (.int .i64 (IntKind.i64.wrap ((i : Int) + 1))))), (3, AV.vec 1 (i + 1))] = _
      rw [wi]
    · show [Blk.var (lkC l), .vec 1 (i + 1) (flat sC (pks l.c l.a (l.q.take i)) ++ [sD (pk (IntKind.i64.wrap ((l.a : Int) + (i : Int))) l.c s)])] = _
      rw [take_next hs, pks_snoc, flat_append, wa, show (l.q.take i).length = i from by simp; omega]
      rfl
  · have him : i = m := by have := of_decide_eq_false c1; omega
    subst him
    refine W.ret ?_
    have hpl : (pks l.c l.a (l.q.take i)).length = i := by rw [pks_len, List.length_take]; have : (l.q.take 8).length ≤ l.q.length := (by simp; omega); omega
    cases hz : ((i : Int) == 0) with
    | true =>
      have hi0 : i = 0 := by simpa using hz
      subst hi0
      have hqe : l.q = [] := by
        have : (l.q.take 8).length = 0 := hm8.symm
        simp only [List.length_take] at this
        exact List.eq_nil_of_length_eq_zero (by omega)
      have hpe : packets l = if l.o then [pk (-1) l.c mt] else [] := by unfold packets; rw [hqe]
      cases ho : l.o with
      | true =>
        rw [ho] at hpe
        repeat (first | refine W.ite_t rfl ?_ | refine W.ite_f rfl ?_ | refine W.ite_t hz ?_ | refine W.ite_t ho ?_)
        refine W.pure (ok58 (-1) l.c mt (by decide) (by omega) (by decide)) rfl rfl ?_
        refine W.alt_l ?_
        refine W.need ⟨rfl, rfl, rfl, by decide, by decide, by intro c hc; obtain rfl := List.mem_singleton.1 hc; rfl⟩ ?_
        refine W.ret (RetQ.part [0] (by decide) (by simp) (lk_one l) ⟨?_, rfl⟩)
        rw [hpe, hqe]
        rfl
      | false =>
        rw [ho] at hpe
        repeat (first | refine W.ite_t rfl ?_ | refine W.ite_f rfl ?_ | refine W.ite_t hz ?_ | refine W.ite_f ho ?_)
        refine W.ret (RetQ.part [0] (by decide) (by simp) (lk_one l) ⟨?_, rfl⟩)
        rw [hpe]
        rfl
    | false =>
      have hi0 : i ≠ 0 := by simpa using hz
      repeat (first | refine W.ite_t rfl ?_ | refine W.ite_f rfl ?_ | refine W.ite_f hz ?_)
      refine W.ret (RetQ.part [0] (by decide) (by simp) (lk_one l) ⟨?_, rfl⟩)
      have hqt : l.q.take i = l.q.take 8 := by
        rw [List.length_take] at hm8
        by_cases h8 : 8 ≤ l.q.length
        · rw [show i = 8 from by omega]
        · rw [List.take_of_length_le (by omega), List.take_of_length_le (by omega)]
      have hpe : packets l = pks l.c l.a (l.q.take i) := by
        unfold packets
        rw [hqt]
        split
        · rename_i hqe
          rw [hqe] at hm8
          exact absurd hm8 hi0
        · rfl
      rw [hpe]
      show AV.d (.sl i ((flat sC (pks l.c l.a (l.q.take i))).take (i * 1))) = .d (.sl (pks l.c l.a (l.q.take i)).length (flat sC (pks l.c l.a (l.q.take i))))
      have := flat_all sC_len (pks l.c l.a (l.q.take i))
      rw [hpl] at this ⊢
      rw [this]
/-! ### what comes -/
def rdP (p : ByteArray) : Int × Int × ByteArray × Err :=
  ((readI p 0 none).1, (readI p (readI p 0 none).2.1 (readI p 0 none).2.2).1,
   (readT p (readI p (readI p 0 none).2.1 (readI p 0 none).2.2).2.1 (readI p (readI p 0 none).2.1 (readI p 0 none).2.2).2.2 2000).1,
   doneE p (readT p (readI p (readI p 0 none).2.1 (readI p 0 none).2.2).2.1 (readI p (readI p 0 none).2.1 (readI p 0 none).2.2).2.2 2000).2.1
     (readT p (readI p (readI p 0 none).2.1 (readI p 0 none).2.2).2.1 (readI p (readI p 0 none).2.1 (readI p 0 none).2.2).2.2 2000).2.2)
abbrev nestD (e : Nat × Int) : D := .iface 114 (.box [sD linkW, nI 0, ftD codeW e.1 e.2] 0)
def isE (s : ByteArray) : Bool := s.toList == mt.toList
/-- The peer says how many came. -/
def ack (l : Lk) (c : Int) : Lk := if c - l.a > 0 ∧ c - l.a ≤ l.q.length then { l with q := l.q.drop (c - l.a).toNat, a := c.toNat } else l
def takeV (l : Lk) (n c : Int) (s : ByteArray) : (ByteArray × Bool × D) × Lk :=
  if n < -1 ∨ c < 0 ∨ (n < 0 ∧ isE s = false) then ((mt, false, ftD linkW 0 11), l)
  else if n < 0 then ((mt, false, .lit .nilIface), ack l c)
  else if n ≠ l.c then ((mt, false, .lit .nilIface), { ack l c with o := true })
  else ((s, true, .lit .nilIface), { ack l c with o := true, c := l.c + 1 })
def takeL (l : Lk) (p : ByteArray) : (ByteArray × Bool × D) × Lk := match rdP p with
  | (_, _, _, some e) => ((mt, false, nestD e), l)
  | (n, c, s, none) => takeV l n c s
abbrev tkA (r : ByteArray × Bool × D) : AV := .tuple [.d (sD r.1), .d (.lit (.bool r.2.1)), .d r.2.2]
theorem readI_le {s : ByteArray} {a : Nat} {e : Err} (h : a ≤ s.size) : (readI s a e).2.1 ≤ s.size := readN_le s a e h
theorem ack_c (l : Lk) (c : Int) : (ack l c).c = l.c ∧ (ack l c).o = l.o := by unfold ack; split <;> exact ⟨rfl, rfl⟩
set_option maxHeartbeats 16000000 in
theorem ok37 (l : Lk) (h : l.ok) (p : ByteArray) (hp : p.size ≤ 1000000) : CallOk Try.prog 37 [.ptr 0 0, .d (sD p)] (lkS l) (fun v σ => v = tkA (takeL l p).1 ∧ σ = lkS (takeL l p).2) := by
  refine CallOk.of tysOk mixed od37 Try.func37 rfl rfl code37 ?_
  have hq := h.q
  have ha := h.a
  have hc := h.c
  unfold takeL rdP
  refine W.callF [] [.var (lkC l), .var [.d (sD p), .d (nI 0), .d (.lit .nilIface)]] (x2 := .ptr 1 0) (ok19 p) (by decide) rfl rfl rfl rfl rfl rfl ?_
  have k1 := ok59 p 0 none (by omega)
  have r1 := readI_le (s := p) (a := 0) (e := none) (by omega)
  have q1 := unzz_range (readN_lt p 0 none)
  have q1 : -9223372036854775808 ≤ (readI p 0 none).1 ∧ (readI p 0 none).1 < 9223372036854775808 := q1
  generalize readI p 0 none = N at *
  obtain ⟨n, a1, e1⟩ := N
  refine W.callF [1] [.var (lkC l), .var [.d (sD p), .d (nI a1), .d (errD e1)]] (x2 := .d (nI n)) k1 (by decide) rfl rfl rfl rfl rfl rfl ?_
  have k2 := ok59 p a1 e1 (by omega)
  have r2 := readI_le (s := p) (a := a1) (e := e1) r1
  have q2 := unzz_range (readN_lt p a1 e1)
  have q2 : -9223372036854775808 ≤ (readI p a1 e1).1 ∧ (readI p a1 e1).1 < 9223372036854775808 := q2
  dsimp only
  generalize readI p a1 e1 = C at *
  obtain ⟨c, a2, e2⟩ := C
  refine W.callF [1] [.var (lkC l), .var [.d (sD p), .d (nI a2), .d (errD e2)]] (x2 := .d (nI c)) k2 (by decide) rfl rfl rfl rfl rfl rfl ?_
  have k3 := ok60 p a2 e2 2000 (by decide) r2 (by omega)
  dsimp only
  generalize readT p a2 e2 2000 = S at *
  obtain ⟨s, a3, e3⟩ := S
  refine W.callF [1] [.var (lkC l), .var [.d (sD p), .d (nI a3), .d (errD e3)]] (x2 := .d (sD s)) k3 (by decide) rfl rfl rfl rfl rfl rfl ?_
  have k4 := ok22 p a3 e3
  dsimp only
  generalize doneE p a3 e3 = E at *
  refine W.callF [1] [.var (lkC l), .var [.d (sD p), .d (nI a3), .d (errD E)]] (x2 := .d (errD E)) k4 (by decide) rfl rfl rfl rfl rfl rfl ?_
  cases E with
  | some e =>
    repeat (first | refine W.ite_t rfl ?_ | refine W.ite_f rfl ?_)
    exact W.ret (RetQ.part [0] (by decide) (by simp) (lk_one l) ⟨rfl, rfl⟩)
  | none =>
    repeat (first | refine W.ite_t rfl ?_ | refine W.ite_f rfl ?_)
    dsimp only at q1 q2 ⊢
    unfold takeV
    have bad : n < -1 ∨ c < 0 ∨ (n < 0 ∧ isE s = false) → ∀ {B : (ByteArray × Bool × D) × Lk}, RetQ (lkS l).length (fun v σ => v = tkA (if n < -1 ∨ c < 0 ∨ (n < 0 ∧ isE s = false) then ((mt, false, ftD linkW 0 11), l) else B).1 ∧ σ = lkS (if n < -1 ∨ c < 0 ∨ (n < 0 ∧ isE s = false) then ((mt, false, ftD linkW 0 11), l) else B).2) .ret [(0, tkA (mt, false, ftD linkW 0 11))] [.var (lkC l), .var [.d (sD p), .d (nI a3), .d (.lit .nilIface)]] := fun hb {B} => by
      rw [if_pos hb]
      exact RetQ.part [0] (by decide) (by simp) (lk_one l) ⟨rfl, rfl⟩
    cases h1 : decide (n < -1) with
    | true =>
      repeat (first | refine W.ite_t h1 ?_ | refine W.ite_t rfl ?_ | refine W.ite_f rfl ?_)
      refine W.pure (ok38 11) rfl rfl ?_
      exact W.ret (bad (.inl (of_decide_eq_true h1)))
    | false =>
    cases h2 : decide (c < 0) with
    | true =>
      repeat (first | refine W.ite_f h1 ?_ | refine W.ite_t h2 ?_ | refine W.ite_t rfl ?_ | refine W.ite_f rfl ?_)
      refine W.pure (ok38 11) rfl rfl ?_
      exact W.ret (bad (.inr (.inl (of_decide_eq_true h2))))
    | false =>
    have p1 := of_decide_eq_false h1
    have p2 := of_decide_eq_false h2
    have wd : IntKind.i64.wrap (c - (l.a : Int)) = c - l.a := wrap64 (by omega) (by omega)
    -- the queue behind what the peer says
    have kc : 0 < c - l.a → c - l.a ≤ l.q.length → Go.Am.Pure Try.prog 39 [.d (.sl (l.q.length - (IntKind.i64.wrap (c - (l.a : Int))).toNat) (((flat sC l.q).drop ((IntKind.i64.wrap (c - (l.a : Int))).toNat * 1)).take ((l.q.length - (IntKind.i64.wrap (c - (l.a : Int))).toNat) * 1)))] (slS (l.q.drop (c - l.a).toNat)) := fun g1 g2 => by
      have := ok39 (l.q.drop (c - l.a).toNat) (by simp; omega)
      rw [wd]
      have e : ((flat sC l.q).drop ((c - l.a).toNat * 1)).take ((l.q.length - (c - l.a).toNat) * 1) = flat sC (l.q.drop (c - l.a).toNat) := by
        rw [flat_drop sC_len, show l.q.length - (c - l.a).toNat = (l.q.drop (c - l.a).toNat).length from by simp, flat_all sC_len]
      rw [e, show l.q.length - (c - l.a).toNat = (l.q.drop (c - l.a).toNat).length from by simp]
      exact this
    cases h3 : decide (n < 0) with
    | true =>
      cases h4 : isE s with
      | false =>
        have h4' : (!(s.toList == mt.toList)) = true := by have : (s.toList == mt.toList) = false := h4; rw [this]; rfl
        repeat (first | refine W.ite_f h1 ?_ | refine W.ite_f h2 ?_ | refine W.ite_t h3 ?_ | refine W.ite_t h4' ?_ | refine W.ite_t rfl ?_ | refine W.ite_f rfl ?_)
        refine W.pure (ok38 11) rfl rfl ?_
        rw [if_pos (Or.inr (Or.inr ⟨of_decide_eq_true h3, rfl⟩))]
        exact W.ret (RetQ.part [0] (by decide) (by simp) (lk_one l) ⟨rfl, rfl⟩)
      | true =>
        have h4' : (!(s.toList == mt.toList)) = false := by have : (s.toList == mt.toList) = true := h4; rw [this]; rfl
        have p3 := of_decide_eq_true h3
        rw [if_neg (by simp; omega), if_pos p3]
        cases d1 : decide (IntKind.i64.wrap (c - (l.a : Int)) > 0) with
        | false =>
          have g1 := of_decide_eq_false d1
          rw [wd] at g1
          repeat (first | refine W.ite_f h1 ?_ | refine W.ite_f h2 ?_ | refine W.ite_t h3 ?_ | refine W.ite_f h4' ?_ | refine W.ite_f d1 ?_ | refine W.ite_t rfl ?_ | refine W.ite_f rfl ?_)
          have e : ack l c = l := if_neg (by omega)
          rw [e]
          exact W.ret (RetQ.part [0] (by decide) (by simp) (lk_one l) ⟨rfl, rfl⟩)
        | true =>
        have g1 := of_decide_eq_true d1
        rw [wd] at g1
        cases d2 : decide (IntKind.i64.wrap (c - (l.a : Int)) ≤ (l.q.length : Int)) with
        | false =>
          have g2 := of_decide_eq_false d2
          rw [wd] at g2
          repeat (first | refine W.ite_f h1 ?_ | refine W.ite_f h2 ?_ | refine W.ite_t h3 ?_ | refine W.ite_f h4' ?_ | refine W.ite_t d1 ?_ | refine W.ite_f d2 ?_ | refine W.ite_t rfl ?_ | refine W.ite_f rfl ?_)
          have e : ack l c = l := if_neg (by omega)
          rw [e]
          exact W.ret (RetQ.part [0] (by decide) (by simp) (lk_one l) ⟨rfl, rfl⟩)
        | true =>
          have g2 := of_decide_eq_true d2
          rw [wd] at g2
          repeat (first | refine W.ite_f h1 ?_ | refine W.ite_f h2 ?_ | refine W.ite_t h3 ?_ | refine W.ite_f h4' ?_ | refine W.ite_t d1 ?_ | refine W.ite_t d2 ?_ | refine W.ite_t rfl ?_ | refine W.ite_f rfl ?_)
          refine W.need (by rw [wd]; omega) ?_
          refine W.pure (kc g1 g2) rfl rfl ?_
          repeat (first | refine W.ite_f h1 ?_ | refine W.ite_f h2 ?_ | refine W.ite_t h3 ?_ | refine W.ite_t rfl ?_ | refine W.ite_f rfl ?_)
          have e : ack l c = { l with q := l.q.drop (c - l.a).toNat, a := c.toNat } := if_pos (by omega)
          rw [e]
          refine W.ret (RetQ.part [0] (by decide) (by simp) (lk_one l) ⟨rfl, ?_⟩)
          show [Blk.var [_, AV.d (nI c), _, _]] = [Blk.var [_, AV.d (nI (c.toNat : Nat)), _, _]]
          rw [Int.toNat_of_nonneg (by omega)]
          rfl
    | false =>
      have p3 := of_decide_eq_false h3
      have e0 := ack_c l c
      rw [if_neg (by omega), if_neg p3]
      have wc : IntKind.i64.wrap ((l.c : Int) + 1) = ((l.c + 1 : Nat) : Int) := by rw [wrap64 (by omega) (by omega)]; omega
      cases h5 : (n != (l.c : Int)) with
      | true =>
        have p5 : n ≠ l.c := by simpa using h5
        rw [if_pos p5]
        cases d1 : decide (IntKind.i64.wrap (c - (l.a : Int)) > 0) with
        | false =>
          have g1 := of_decide_eq_false d1
          rw [wd] at g1
          repeat (first | refine W.ite_f h1 ?_ | refine W.ite_f h2 ?_ | refine W.ite_f h3 ?_ | refine W.ite_t h5 ?_ | refine W.ite_f d1 ?_ | refine W.ite_t rfl ?_ | refine W.ite_f rfl ?_)
          have e : ack l c = l := if_neg (by omega)
          rw [e]
          exact W.ret (RetQ.part [0] (by decide) (by simp) (lk_one l) ⟨rfl, rfl⟩)
        | true =>
        have g1 := of_decide_eq_true d1
        rw [wd] at g1
        cases d2 : decide (IntKind.i64.wrap (c - (l.a : Int)) ≤ (l.q.length : Int)) with
        | false =>
          have g2 := of_decide_eq_false d2
          rw [wd] at g2
          repeat (first | refine W.ite_f h1 ?_ | refine W.ite_f h2 ?_ | refine W.ite_f h3 ?_ | refine W.ite_t h5 ?_ | refine W.ite_t d1 ?_ | refine W.ite_f d2 ?_ | refine W.ite_t rfl ?_ | refine W.ite_f rfl ?_)
          have e : ack l c = l := if_neg (by omega)
          rw [e]
          exact W.ret (RetQ.part [0] (by decide) (by simp) (lk_one l) ⟨rfl, rfl⟩)
        | true =>
          have g2 := of_decide_eq_true d2
          rw [wd] at g2
          repeat (first | refine W.ite_f h1 ?_ | refine W.ite_f h2 ?_ | refine W.ite_f h3 ?_ | refine W.ite_t d1 ?_ | refine W.ite_t d2 ?_ | refine W.ite_t rfl ?_ | refine W.ite_f rfl ?_)
          refine W.need (by rw [wd]; omega) ?_
          refine W.pure (kc g1 g2) rfl rfl ?_
          repeat (first | refine W.ite_f h3 ?_ | refine W.ite_t h5 ?_ | refine W.ite_t rfl ?_ | refine W.ite_f rfl ?_)
          have e : ack l c = { l with q := l.q.drop (c - l.a).toNat, a := c.toNat } := if_pos (by omega)
          rw [e]
          refine W.ret (RetQ.part [0] (by decide) (by simp) (lk_one l) ⟨rfl, ?_⟩)
          show [Blk.var [_, AV.d (nI c), _, _]] = [Blk.var [_, AV.d (nI (c.toNat : Nat)), _, _]]
          rw [Int.toNat_of_nonneg (by omega)]
          rfl
      | false =>
        have p5 : n = l.c := by simpa using h5
        rw [if_neg (by omega)]
        cases d1 : decide (IntKind.i64.wrap (c - (l.a : Int)) > 0) with
        | false =>
          have g1 := of_decide_eq_false d1
          rw [wd] at g1
          repeat (first | refine W.ite_f h1 ?_ | refine W.ite_f h2 ?_ | refine W.ite_f h3 ?_ | refine W.ite_f h5 ?_ | refine W.ite_f d1 ?_ | refine W.ite_t rfl ?_ | refine W.ite_f rfl ?_)
          have e : ack l c = l := if_neg (by omega)
          rw [e]
          refine W.ret (RetQ.part [0] (by decide) (by simp) (lk_one l) ⟨rfl, ?_⟩)
          show [Blk.var [_, _, AV.d (nI (IntKind.i64.wrap ((l.c : Int) + 1))), _]] = _
          rw [wc]
          rfl
        | true =>
        have g1 := of_decide_eq_true d1
        rw [wd] at g1
        cases d2 : decide (IntKind.i64.wrap (c - (l.a : Int)) ≤ (l.q.length : Int)) with
        | false =>
          have g2 := of_decide_eq_false d2
          rw [wd] at g2
          repeat (first | refine W.ite_f h1 ?_ | refine W.ite_f h2 ?_ | refine W.ite_f h3 ?_ | refine W.ite_f h5 ?_ | refine W.ite_t d1 ?_ | refine W.ite_f d2 ?_ | refine W.ite_t rfl ?_ | refine W.ite_f rfl ?_)
          have e : ack l c = l := if_neg (by omega)
          rw [e]
          refine W.ret (RetQ.part [0] (by decide) (by simp) (lk_one l) ⟨rfl, ?_⟩)
          show [Blk.var [_, _, AV.d (nI (IntKind.i64.wrap ((l.c : Int) + 1))), _]] = _
          rw [wc]
          rfl
        | true =>
          have g2 := of_decide_eq_true d2
          rw [wd] at g2
          repeat (first | refine W.ite_f h1 ?_ | refine W.ite_f h2 ?_ | refine W.ite_f h3 ?_ | refine W.ite_t d1 ?_ | refine W.ite_t d2 ?_ | refine W.ite_t rfl ?_ | refine W.ite_f rfl ?_)
          refine W.need (by rw [wd]; omega) ?_
          refine W.pure (kc g1 g2) rfl rfl ?_
          repeat (first | refine W.ite_f h3 ?_ | refine W.ite_f h5 ?_ | refine W.ite_t rfl ?_ | refine W.ite_f rfl ?_)
          have e : ack l c = { l with q := l.q.drop (c - l.a).toNat, a := c.toNat } := if_pos (by omega)
          rw [e]
          refine W.ret (RetQ.part [0] (by decide) (by simp) (lk_one l) ⟨rfl, ?_⟩)
          show [Blk.var [_, AV.d (nI c), AV.d (nI (IntKind.i64.wrap ((l.c : Int) + 1))), _]] = [Blk.var [_, AV.d (nI (c.toNat : Nat)), _, _]]
          rw [Int.toNat_of_nonneg (by omega), wc]
          rfl
theorem ok6 (l : Lk) : CallOk Try.prog 6 [.ptr 0 0] (lkS l) (fun v σ => v = bI (decide (l.q = []) && !l.o) ∧ σ = lkS l) := by
  refine CallOk.of tysOk mixed od6 Try.func6 rfl rfl code6 ?_
  obtain ⟨q, a, c, o⟩ := l
  cases q with
  | nil =>
    repeat (first | refine W.ite_t rfl ?_ | refine W.ite_f rfl ?_)
    exact W.ret (RetQ.all ⟨rfl, rfl⟩)
  | cons s r =>
    repeat (first | refine W.ite_t rfl ?_ | refine W.ite_f rfl ?_)
    exact W.ret (RetQ.all ⟨by simp; rfl, rfl⟩)
theorem toList_beq (s : ByteArray) : (s.toList == s.toList) = true := beq_self_eq_true _
theorem toList_bne (s : ByteArray) : (!(s.toList == s.toList)) = false := by rw [toList_beq]; rfl
theorem ok16 (l : List ByteArray) (hl : l.length ≤ 1000000) : Go.Am.Pure Try.prog 16 [slS l, slS l] (bI true) := by
  refine CallOk.of tysOk mixed od16 Try.func16 rfl rfl code16 ?_
  have h0 : ((l.length : Int) != (l.length : Int)) = false := by simp
  refine W.ite_f h0 ?_
  refine W.loop (fun k fr σ => ∃ i : Nat, fr = [(0, slS l), (1, slS l), (12, .d (nI l.length)), (13, .d (nI i))] ∧ σ = [] ∧ i ≤ l.length ∧ k = l.length - i) l.length
    (Start.of [0, 1, 12, 13] [] (by simp)) ⟨0, rfl, rfl, by omega, rfl⟩ ?_
  rintro k fr σ ⟨i, rfl, rfl, hi, rfl⟩
  refine W.ite (fun c1 => ?_) (fun c1 => ?_)
  · have hil : i < l.length := by have := of_decide_eq_true c1; omega
    obtain ⟨s, hs⟩ : ∃ s, l[i]? = some s := ⟨_, List.getElem?_eq_getElem hil⟩
    have wi : IntKind.i64.wrap ((i : Int) + 1) = ((i + 1 : Nat) : Int) := by rw [wrap64 (by omega) (by omega)]; omega
    refine W.need (ix_ok sC_len (by decide) hil) ?_
    refine W.ld (sE hs) ?_
    refine W.need (ix_ok sC_len (by decide) hil) ?_
    refine W.ld (sE hs) ?_
    refine W.ite_f (toList_bne s) ?_
    refine W.ret ⟨_, _, _, ?_, Trim.of [0, 1, 12, 13] [] (by decide) (by simp) (by simp), i + 1, ?_, rfl, by omega, rfl⟩
    · omega
    · rw [← wi]; rfl
  · exact W.ret (W.ret (RetQ.pure rfl rfl))
end Go.Proofs.Ytddhlmejaobcgaa.Lk
