import Derived.Test.YtddhlmejaobcgaaDoorAm22
import Derived.Test.YtddhlmejaobcgaaDoorProg
set_option maxRecDepth 100000
set_option linter.unusedVariables false
set_option linter.unusedSimpArgs false
namespace Go.Proofs.YtddhlmejaobcgaaDoor.Va
open Go Go.Am
def tys : Tys := [(3, ⟨.scalar, false, 1, [.int .i64 0], [.int .i64], false, 0⟩), (9, ⟨.str, false, 1, [.string ⟨#[]⟩], [.str], false, 0⟩), (87, ⟨.struct [(0, 9), (1, 3), (2, 3)], true, 3, [.string ⟨#[]⟩, .int .i64 0, .int .i64 0], [.str, .int .i64, .int .i64], true, 0⟩), (50, ⟨.struct [(0, 9), (1, 3), (2, 3), (3, 3), (4, 9)], true, 5, [.string ⟨#[]⟩, .int .i64 0, .int .i64 0, .int .i64 0, .string ⟨#[]⟩], [.str, .int .i64, .int .i64, .int .i64, .str], true, 0⟩), (54, ⟨.struct [(0, 9), (1, 3), (2, 3), (3, 3)], true, 4, [.string ⟨#[]⟩, .int .i64 0, .int .i64 0, .int .i64 0], [.str, .int .i64, .int .i64, .int .i64], true, 0⟩), (5, ⟨.scalar, false, 1, [.int .u8 0], [.int .u8], false, 0⟩), (107, ⟨.slice 5 1 1 true, false, 1, [.slice none 0 0], [.other], false, 0⟩), (28, ⟨.struct [(0, 26), (1, 9)], true, 2, [.slice none 0 0, .string ⟨#[]⟩], [.other, .str], true, 0⟩), (57, ⟨.struct [(0, 3), (1, 9)], true, 2, [.int .i64 0, .string ⟨#[]⟩], [.int .i64, .str], true, 0⟩), (136, ⟨.scalar, false, 1, [.int .u32 0], [.int .u32], false, 0⟩), (25, ⟨.slice 50 5 56 false, false, 1, [.slice none 0 0], [.other], false, 0⟩), (23, ⟨.slice 54 4 40 false, false, 1, [.slice none 0 0], [.other], false, 0⟩), (74, ⟨.struct [(0, 3), (1, 3)], true, 2, [.int .i64 0, .int .i64 0], [.int .i64, .int .i64], true, 0⟩), (26, ⟨.slice 57 2 24 false, false, 1, [.slice none 0 0], [.other], false, 0⟩), (41, ⟨.iface, false, 1, [.nilIface], [.other], false, 0⟩), (128, ⟨.scalar, false, 1, [.int .u64 0], [.int .u64], false, 0⟩), (38, ⟨.slice 74 2 16 false, false, 1, [.slice none 0 0], [.other], false, 0⟩), (44, ⟨.slice 9 1 16 false, false, 1, [.slice none 0 0], [.other], false, 0⟩), (2, ⟨.scalar, false, 1, [.int .i64 0], [.int .i64], false, 0⟩), (21, ⟨.scalar, false, 1, [.int .i32 0], [.int .i32], false, 0⟩), (84, ⟨.struct [(0, 9), (1, 3), (2, 41)], true, 3, [.string ⟨#[]⟩, .int .i64 0, .nilIface], [.str, .int .i64, .other], false, 0⟩), (82, ⟨.scalar, false, 1, [.int .i64 0], [.int .i64], false, 0⟩), (81, ⟨.ptr, false, 1, [.pointer none], [.other], false, 0⟩), (127, ⟨.array 24 5 1, true, 24, [.int .u8 0, .int .u8 0, .int .u8 0, .int .u8 0, .int .u8 0, .int .u8 0, .int .u8 0, .int .u8 0, .int .u8 0, .int .u8 0, .int .u8 0, .int .u8 0, .int .u8 0, .int .u8 0, .int .u8 0, .int .u8 0, .int .u8 0, .int .u8 0, .int .u8 0, .int .u8 0, .int .u8 0, .int .u8 0, .int .u8 0, .int .u8 0], [.int .u8, .int .u8, .int .u8, .int .u8, .int .u8, .int .u8, .int .u8, .int .u8, .int .u8, .int .u8, .int .u8, .int .u8, .int .u8, .int .u8, .int .u8, .int .u8, .int .u8, .int .u8, .int .u8, .int .u8, .int .u8, .int .u8, .int .u8, .int .u8], true, 0⟩), (35, ⟨.slice 71 2 24 false, false, 1, [.slice none 0 0], [.other], false, 0⟩), (29, ⟨.slice 69 4 40 false, false, 1, [.slice none 0 0], [.other], false, 0⟩), (32, ⟨.slice 70 5 56 false, false, 1, [.slice none 0 0], [.other], false, 0⟩), (4, ⟨.scalar, false, 1, [.bool false], [.bool], false, 0⟩), (135, ⟨.array 20 128 1, true, 20, [.int .u64 0, .int .u64 0, .int .u64 0, .int .u64 0, .int .u64 0, .int .u64 0, .int .u64 0, .int .u64 0, .int .u64 0, .int .u64 0, .int .u64 0, .int .u64 0, .int .u64 0, .int .u64 0, .int .u64 0, .int .u64 0, .int .u64 0, .int .u64 0, .int .u64 0, .int .u64 0], [.int .u64, .int .u64, .int .u64, .int .u64, .int .u64, .int .u64, .int .u64, .int .u64, .int .u64, .int .u64, .int .u64, .int .u64, .int .u64, .int .u64, .int .u64, .int .u64, .int .u64, .int .u64, .int .u64, .int .u64], true, 0⟩), (69, ⟨.struct [(0, 9), (1, 3), (2, 3), (3, 3)], true, 4, [.string ⟨#[]⟩, .int .i64 0, .int .i64 0, .int .i64 0], [.str, .int .i64, .int .i64, .int .i64], true, 0⟩), (71, ⟨.struct [(0, 3), (1, 9)], true, 2, [.int .i64 0, .string ⟨#[]⟩], [.int .i64, .str], true, 0⟩), (70, ⟨.struct [(0, 9), (1, 3), (2, 3), (3, 3), (4, 9)], true, 5, [.string ⟨#[]⟩, .int .i64 0, .int .i64 0, .int .i64 0, .string ⟨#[]⟩], [.str, .int .i64, .int .i64, .int .i64, .str], true, 0⟩)]
theorem tysOk : TysOk Tryd.prog tys := TysOk.of (by kernel_rfl)
theorem mixed : Tryd.prog.follows .mixedOrders = true := by kernel_rfl
abbrev nI (n : Int) : D := .lit (.int .i64 n)
abbrev bI (b : Bool) : AV := .d (.lit (.bool b))
abbrev sD (s : ByteArray) : D := .lit (.string s)
abbrev rI (n : Int) : AV := .d (.lit (.int .i32 n))
theorem ret_bI {a b : Bool} (h : a = b) : mkRet [.d (.lit (.bool a))] = bI b := by subst h; rfl
theorem ret_nI {a b : Int} (h : a = b) : mkRet [.d (.lit (.int .i64 a))] = .d (nI b) := by subst h; rfl
/-! ### strings -/
theorem width_pos (s : ByteArray) (i : Nat) : 1 ≤ (Utf8.decode s i).2 := by
  unfold Utf8.decode
  simp only
  repeat' split
  all_goals simp
/-- Where a text's first rune of a kind is; -1: nowhere. -/
def runeIx (p : Int → Bool) (s : ByteArray) : Nat → Nat → Int
  | 0, _ => -1
  | f + 1, pos => if pos < s.size then (if p (Utf8.decode s pos).1 then (pos : Int) else runeIx p s f (pos + (Utf8.decode s pos).2)) else -1
theorem runeIx_nn (p : Int → Bool) (s : ByteArray) : ∀ f pos, -1 ≤ runeIx p s f pos
  | 0, _ => by simp [runeIx]
  | f + 1, pos => by
    unfold runeIx
    have := runeIx_nn p s f (pos + (Utf8.decode s pos).2)
    split
    · split
      · omega
      · exact this
    · omega
/-- Has a text a rune of a kind? -/
def hasRune (p : Int → Bool) (s : ByteArray) : Bool := decide (runeIx p s (s.size + 1) 0 ≥ 0)
def od63 : Ords := []
theorem code63 : codeB Tryd.f63.ntmps od63 (match Tryd.f63.body with | some c => c | none => .skip) = true := by kernel_rfl
def od60 : Ords := []
theorem code60 : codeB Tryd.f60.ntmps od60 (match Tryd.f60.body with | some c => c | none => .skip) = true := by kernel_rfl
def od52 : Ords := []
theorem code52 : codeB Tryd.f52.ntmps od52 (match Tryd.f52.body with | some c => c | none => .skip) = true := by kernel_rfl
def od53 : Ords := []
theorem code53 : codeB Tryd.f53.ntmps od53 (match Tryd.f53.body with | some c => c | none => .skip) = true := by kernel_rfl
def od55 : Ords := []
theorem code55 : codeB Tryd.f55.ntmps od55 (match Tryd.f55.body with | some c => c | none => .skip) = true := by kernel_rfl
def od34 : Ords := []
theorem code34 : codeB Tryd.f34.ntmps od34 (match Tryd.f34.body with | some c => c | none => .skip) = true := by kernel_rfl
def od39 : Ords := []
theorem code39 : codeB Tryd.f39.ntmps od39 (match Tryd.f39.body with | some c => c | none => .skip) = true := by kernel_rfl
theorem ok63 (p : Int → Bool) (g : Nat) (hp : ∀ r, Go.Am.Pure Tryd.prog g [rI r] (bI (p r))) (s : ByteArray) :
    Go.Am.Pure Tryd.prog 63 [.d (sD s), .fn g [], bI true] (.d (nI (runeIx p s (s.size + 1) 0))) := by
  refine CallOk.of tysOk mixed od63 Tryd.func63 rfl rfl code63 ?_
  refine W.loop (fun k fr σ => ∃ pos f : Nat, fr = [(1, .fn g []), (2, bI true), (10, .iter 0)] ∧ σ = [.iter s pos] ∧ s.size < pos + f ∧ runeIx p s f pos = runeIx p s (s.size + 1) 0 ∧ f = k) (s.size + 1)
    (Start.of [1, 2, 10] [] (by simp)) ⟨0, s.size + 1, rfl, rfl, by omega, rfl, rfl⟩ ?_
  rintro k fr σ ⟨pos, f, rfl, rfl, hf, hr, rfl⟩
  refine W.ite (fun c1 => ?_) (fun c1 => ?_)
  · have hlt : pos < s.size := of_decide_eq_true c1
    obtain ⟨f, rfl⟩ : ∃ f', f = f' + 1 := ⟨f - 1, by omega⟩
    have hw := width_pos s pos
    repeat (first | refine W.ite_t rfl ?_ | refine W.ite_f rfl ?_)
    refine W.pure (hp (Utf8.decode s pos).1) rfl rfl ?_
    refine W.ite (fun c2 => ?_) (fun c2 => ?_)
    · have hpt : p (Utf8.decode s pos).1 = true := by simpa using c2
      refine W.ret (W.ret ?_)
      refine RetQ.pure rfl (ret_nI ?_)
      rw [← hr, runeIx, if_pos hlt, if_pos hpt]
    · have hpf : p (Utf8.decode s pos).1 = false := by simpa using c2
      refine W.ret ⟨f, _, _, by omega, Trim.of [1, 2, 10] [0] (by decide) (by simp) (by intro j hj; have : j = 0 := (by simp at hj; omega); subst this; rfl), pos + (Utf8.decode s pos).2, f, rfl, rfl, by omega, ?_, rfl⟩
      rw [← hr, runeIx, if_pos hlt, if_neg (by rw [hpf]; decide)]
  · have hge : ¬ pos < s.size := of_decide_eq_false c1
    repeat (first | refine W.ite_t rfl ?_ | refine W.ite_f rfl ?_)
    refine W.ret (W.ret ?_)
    refine RetQ.pure rfl (ret_nI ?_)
    rw [← hr]
    cases f with
    | zero => rfl
    | succ f => rw [runeIx, if_neg hge]
theorem ok60 (p : Int → Bool) (g : Nat) (hp : ∀ r, Go.Am.Pure Tryd.prog g [rI r] (bI (p r))) (s : ByteArray) :
    Go.Am.Pure Tryd.prog 60 [.d (sD s), .fn g []] (.d (nI (runeIx p s (s.size + 1) 0))) := by
  refine CallOk.of tysOk mixed od60 Tryd.func60 rfl rfl code60 ?_
  refine W.call [] (by decide) (by simp) (by simp) rfl rfl (ok63 p g hp s) ?_
  rintro v s' ⟨rfl, rfl⟩
  refine W.ret ?_
  exact RetQ.pure rfl rfl
theorem ok52 (p : Int → Bool) (g : Nat) (hp : ∀ r, Go.Am.Pure Tryd.prog g [rI r] (bI (p r))) (s : ByteArray) :
    Go.Am.Pure Tryd.prog 52 [.d (sD s), .fn g []] (bI (hasRune p s)) := by
  refine CallOk.of tysOk mixed od52 Tryd.func52 rfl rfl code52 ?_
  refine W.call [] (by decide) (by simp) (by simp) rfl rfl (ok60 p g hp s) ?_
  rintro v s' ⟨rfl, rfl⟩
  refine W.ret ?_
  refine RetQ.pure rfl (ret_bI ?_)
  rfl
/-- Runes that no name has, that no text has. -/
def badName (c : Int) : Bool := (decide (c < 97) || decide (c > 122)) && (decide (c < 48) || decide (c > 57))
def badStr (c : Int) : Bool := decide (c < 32) || decide (c > 126)
theorem ok53 (c : Int) : Go.Am.Pure Tryd.prog 53 [rI c] (bI (badName c)) := by
  refine CallOk.of tysOk mixed od53 Tryd.func53 rfl rfl code53 ?_
  repeat' (first | refine W.ite_t rfl ?_ | refine W.ite_f rfl ?_ | (refine W.ite_t ?h ?_; (case h => assumption)) | (refine W.ite_f ?h ?_; (case h => assumption)) | refine W.ite (fun h => ?_) (fun h => ?_))
  all_goals (try refine W.ret ?_)
  all_goals (try refine RetQ.pure rfl ?_)
  all_goals refine ret_bI ?_
  all_goals (simp_all [badName] <;> omega)
theorem ok55 (c : Int) : Go.Am.Pure Tryd.prog 55 [rI c] (bI (badStr c)) := by
  refine CallOk.of tysOk mixed od55 Tryd.func55 rfl rfl code55 ?_
  repeat' (first | refine W.ite_t rfl ?_ | refine W.ite_f rfl ?_ | (refine W.ite_t ?h ?_; (case h => assumption)) | (refine W.ite_f ?h ?_; (case h => assumption)) | refine W.ite (fun h => ?_) (fun h => ?_))
  all_goals (try refine W.ret ?_)
  all_goals (try refine RetQ.pure rfl ?_)
  all_goals refine ret_bI ?_
  all_goals (simp_all [badStr] <;> omega)
/-- The first byte. -/
def byte0 (s : ByteArray) : Int := ((s.data.getD 0 0).toNat : Int)
def txt (l : List UInt8) : ByteArray := ⟨l.toArray⟩
/-- Texts that are names. -/
def nameOk (s : ByteArray) : Bool :=
  if (s.toList == (txt []).toList) = true ∨ (s.size : Int) > 12 ∨ byte0 s < 97 ∨ byte0 s > 122 ∨ (s.toList == (txt [105, 110]).toList) = true ∨ (s.toList == (txt [97, 110, 100]).toList) = true then false
  else !(hasRune badName s)
theorem size_pos {s : ByteArray} (h : (s.toList == (txt []).toList) = false) : 0 < s.size := by
  rcases Nat.eq_zero_or_pos s.size with h0 | h0
  · exfalso
    rw [ByteArray.toList_eq] at h
    have : s.data.toList = [] := by
      apply List.eq_nil_of_length_eq_zero
      simpa using h0
    rw [this] at h
    simp [txt] at h
  · exact h0
theorem ok34 (s : ByteArray) : Go.Am.Pure Tryd.prog 34 [.d (sD s)] (bI (nameOk s)) := by
  refine CallOk.of tysOk mixed od34 Tryd.func34 rfl rfl code34 ?_
  have bad : nameOk s = false → ∀ {σ : Store}, RetQ ([] : Store).length (fun v s' => v = bI (nameOk s) ∧ s' = []) .ret [(0, mkRet [.d (.lit (.bool false))])] σ := fun h σ => by
    rw [h]
    exact RetQ.pure rfl rfl
  refine W.ite (fun c1 => ?_) (fun c1 => ?_)
  · have c1 : (s.toList == (txt []).toList) = true := c1
    repeat (first | refine W.ite_t rfl ?_ | refine W.ite_f rfl ?_ | refine W.ite_t c1 ?_)
    exact W.ret (bad (by unfold nameOk; rw [if_pos (.inl c1)]))
  have c1 : (s.toList == (txt []).toList) = false := c1
  have hs := size_pos c1
  repeat (first | refine W.ite_t rfl ?_ | refine W.ite_f rfl ?_ | refine W.ite_f c1 ?_)
  refine W.ite (fun c2 => ?_) (fun c2 => ?_)
  · repeat (first | refine W.ite_t rfl ?_ | refine W.ite_f rfl ?_ | refine W.ite_f c1 ?_ | refine W.ite_t c2 ?_)
    exact W.ret (bad (by unfold nameOk; rw [if_pos (.inr (.inl (of_decide_eq_true c2)))]))
  have hix : (0 : Int) ≤ 0 ∧ (0 : Int) < s.size := by omega
  repeat (first | refine W.ite_t rfl ?_ | refine W.ite_f rfl ?_ | refine W.ite_f c1 ?_ | refine W.ite_f c2 ?_ | refine W.need hix ?_)
  refine W.ite (fun c3 => ?_) (fun c3 => ?_)
  · repeat (first | refine W.ite_t rfl ?_ | refine W.ite_f rfl ?_ | refine W.ite_f c1 ?_ | refine W.ite_f c2 ?_ | refine W.ite_t c3 ?_)
    exact W.ret (bad (by unfold nameOk; rw [if_pos (.inr (.inr (.inl (of_decide_eq_true c3))))]))
  repeat (first | refine W.ite_t rfl ?_ | refine W.ite_f rfl ?_ | refine W.ite_f c1 ?_ | refine W.ite_f c2 ?_ | refine W.ite_f c3 ?_ | refine W.need hix ?_)
  refine W.ite (fun c4 => ?_) (fun c4 => ?_)
  · repeat (first | refine W.ite_t rfl ?_ | refine W.ite_f rfl ?_ | refine W.ite_f c1 ?_ | refine W.ite_f c2 ?_ | refine W.ite_f c3 ?_ | refine W.ite_t c4 ?_)
    exact W.ret (bad (by unfold nameOk; rw [if_pos (.inr (.inr (.inr (.inl (of_decide_eq_true c4)))))]))
  repeat (first | refine W.ite_t rfl ?_ | refine W.ite_f rfl ?_ | refine W.ite_f c1 ?_ | refine W.ite_f c2 ?_ | refine W.ite_f c3 ?_ | refine W.ite_f c4 ?_)
  refine W.ite (fun c5 => ?_) (fun c5 => ?_)
  · repeat (first | refine W.ite_t rfl ?_ | refine W.ite_f rfl ?_ | refine W.ite_f c1 ?_ | refine W.ite_f c2 ?_ | refine W.ite_f c3 ?_ | refine W.ite_f c4 ?_ | refine W.ite_t c5 ?_)
    exact W.ret (bad (by unfold nameOk; rw [if_pos (.inr (.inr (.inr (.inr (.inl c5)))))]))
  repeat (first | refine W.ite_t rfl ?_ | refine W.ite_f rfl ?_ | refine W.ite_f c1 ?_ | refine W.ite_f c2 ?_ | refine W.ite_f c3 ?_ | refine W.ite_f c4 ?_ | refine W.ite_f c5 ?_)
  refine W.ite (fun c6 => ?_) (fun c6 => ?_)
  · exact W.ret (bad (by unfold nameOk; rw [if_pos (.inr (.inr (.inr (.inr (.inr c6)))))]))
  refine W.call [] (by decide) (by simp) (by simp) rfl rfl (ok52 badName 53 ok53 s) ?_
  rintro v s' ⟨rfl, rfl⟩
  refine W.ret ?_
  refine RetQ.pure rfl (ret_bI ?_)
  have c2 := of_decide_eq_false c2
  have c3 : ¬ byte0 s < 97 := of_decide_eq_false c3
  have c4 : ¬ byte0 s > 122 := of_decide_eq_false c4
  have c5 : ¬ (s.toList == (txt [105, 110]).toList) = true := by intro h; have : (s.toList == (txt [105, 110]).toList) = false := c5; rw [h] at this; cases this
  have c6 : ¬ (s.toList == (txt [97, 110, 100]).toList) = true := by intro h; have : (s.toList == (txt [97, 110, 100]).toList) = false := c6; rw [h] at this; cases this
  unfold nameOk
  rw [if_neg (by rintro (h | h | h | h | h | h) <;> first | (rw [h] at c1; cases c1) | exact c2 h | exact c3 h | exact c4 h | exact c5 h | exact c6 h)]
/-- Texts that may be values. -/
def strOk (s : ByteArray) : Bool := decide ((s.size : Int) ≤ 40) && !(hasRune badStr s)
theorem ok39 (s : ByteArray) : Go.Am.Pure Tryd.prog 39 [.d (sD s)] (bI (strOk s)) := by
  refine CallOk.of tysOk mixed od39 Tryd.func39 rfl rfl code39 ?_
  refine W.ite (fun c1 => ?_) (fun c1 => ?_)
  · repeat (first | refine W.ite_t rfl ?_ | refine W.ite_f rfl ?_ | refine W.ite_t c1 ?_)
    refine W.call [] (by decide) (by simp) (by simp) rfl rfl (ok52 badStr 55 ok55 s) ?_
    rintro v s' ⟨rfl, rfl⟩
    repeat (first | refine W.ite_t rfl ?_ | refine W.ite_f rfl ?_ | refine W.ite_t c1 ?_)
    refine W.ret ?_
    refine RetQ.pure rfl (ret_bI ?_)
    unfold strOk
    rw [c1]
    rfl
  · repeat (first | refine W.ite_t rfl ?_ | refine W.ite_f rfl ?_ | refine W.ite_f c1 ?_)
    refine W.ret ?_
    refine RetQ.pure rfl (ret_bI ?_)
    unfold strOk
    rw [c1]
    rfl
def od62 : Ords := []
theorem code62 : codeB Tryd.f62.ntmps od62 (match Tryd.f62.body with | some c => c | none => .skip) = true := by kernel_rfl
def od59 : Ords := []
theorem code59 : codeB Tryd.f59.ntmps od59 (match Tryd.f59.body with | some c => c | none => .skip) = true := by kernel_rfl
/-- Begins a text with another one? -/
def prefOk (s t : ByteArray) : Bool := decide ((s.size : Int) ≥ t.size) && ((s.extract 0 t.size).toList == t.toList)
theorem ok62 (s t : ByteArray) : Go.Am.Pure Tryd.prog 62 [.d (sD s), .d (sD t)] (bI (prefOk s t)) := by
  refine CallOk.of tysOk mixed od62 Tryd.func62 rfl rfl code62 ?_
  refine W.ite (fun c1 => ?_) (fun c1 => ?_)
  · have h1 := of_decide_eq_true c1
    repeat (first | refine W.ite_t rfl ?_ | refine W.ite_f rfl ?_ | refine W.ite_t c1 ?_)
    refine W.need ⟨by omega, by omega⟩ ?_
    repeat (first | refine W.ite_t rfl ?_ | refine W.ite_f rfl ?_ | refine W.ite_t c1 ?_)
    refine W.ret ?_
    refine RetQ.pure rfl (ret_bI ?_)
    unfold prefOk
    rw [c1]
    rfl
  · repeat (first | refine W.ite_t rfl ?_ | refine W.ite_f rfl ?_ | refine W.ite_f c1 ?_)
    refine W.ret ?_
    refine RetQ.pure rfl (ret_bI ?_)
    unfold prefOk
    rw [c1]
    rfl
theorem ok59 (s t : ByteArray) : Go.Am.Pure Tryd.prog 59 [.d (sD s), .d (sD t)] (bI (prefOk s t)) := by
  refine CallOk.of tysOk mixed od59 Tryd.func59 rfl rfl code59 ?_
  refine W.pure (ok62 s t) rfl rfl ?_
  refine W.ret ?_
  exact RetQ.pure rfl rfl
end Go.Proofs.YtddhlmejaobcgaaDoor.Va
