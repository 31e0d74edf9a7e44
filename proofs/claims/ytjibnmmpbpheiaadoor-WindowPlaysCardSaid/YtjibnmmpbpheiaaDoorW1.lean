import Derived.Test.YtjibnmmpbpheiaaDoorAm19
set_option maxRecDepth 100000
set_option linter.unusedVariables false
set_option linter.unusedSimpArgs false
namespace Go.Proofs.YtjibnmmpbpheiaaDoor.Wi
open Go Go.Am
abbrev nI (n : Int) : D := .lit (.int .i64 n)
abbrev uI (n : Nat) : D := .lit (.int .u64 (n : Int))
abbrev bI (b : Bool) : AV := .d (.lit (.bool b))
theorem ret_bI {a b : Bool} (h : a = b) : mkRet [.d (.lit (.bool a))] = bI b := by subst h; rfl
/-- What a window knows: of some publishers the last number, and the bits. -/
abbrev T := List (Int × Int × Nat)
def toE (t : T) : List (D × List D) := t.map fun e => (nI e.1, [nI e.2.1, uI e.2.2])
def getT (p : Int) : T → Int × Nat
  | [] => (0, 0)
  | e :: r => if p = e.1 then e.2 else getT p r
def setT (p : Int) (v : Int × Nat) : T → T
  | [] => [(p, v)]
  | e :: r => if p = e.1 then (p, v) :: r else e :: setT p v r
theorem getT_setT (p q : Int) (v : Int × Nat) : ∀ t : T, getT q (setT p v t) = if q = p then v else getT q t
  | [] => by simp only [setT, getT]
  | e :: r => by
    unfold setT
    by_cases h : p = e.1
    · rw [if_pos h]
      simp only [getT]
      by_cases hq : q = p
      · rw [if_pos hq, if_pos hq]
      · rw [if_neg hq, if_neg hq, if_neg (by omega)]
    · rw [if_neg h]
      simp only [getT]
      by_cases hq : q = e.1
      · rw [if_pos hq, if_pos hq, if_neg (by omega)]
      · rw [if_neg hq, if_neg hq, getT_setT p q v r]
theorem find_toE (p : Int) : ∀ t : T, (findM (.int .i64) (nI p) (toE t)).getD [nI 0, uI 0] = [nI (getT p t).1, uI (getT p t).2]
  | [] => rfl
  | e :: r => by
    have ih := find_toE p r
    simp only [toE, List.map_cons, findM, getT]
    have : sameK (.int .i64) (nI p) (nI e.1) = (p == e.1) := rfl
    rw [this]
    by_cases h : p = e.1
    · simp [h]
    · simp only [h, beq_iff_eq, if_false, beq_eq_false_iff_ne, ne_eq, not_false_eq_true, cond_false, show (p == e.1) = false from by simpa using h]
      exact ih
theorem set_toE (p l : Int) (c : Nat) : ∀ t : T, setM (.int .i64) (nI p) [nI l, uI c] (toE t) = toE (setT p (l, c) t)
  | [] => rfl
  | e :: r => by
    have ih := set_toE p l c r
    simp only [toE, List.map_cons, setM, setT]
    have : sameK (.int .i64) (nI p) (nI e.1) = (p == e.1) := rfl
    rw [this]
    by_cases h : p = e.1
    · simp [h]
    · simp only [show (p == e.1) = false from by simpa using h, cond_false, if_neg h, List.map_cons]
      exact congrArg _ ih
theorem keys_toE (t : T) : ∀ e ∈ toE t, (CK.int .i64).ok e.1 := fun e h => by
  obtain ⟨x, _, rfl⟩ := List.mem_map.1 h
  rfl
def GoodT (t : T) : Prop := ∀ p, 0 ≤ (getT p t).1 ∧ (getT p t).1 ≤ 1073741824 ∧ (getT p t).2 < 18446744073709551616
/-- A publisher's number comes. -/
def comeV (v : Int × Nat) (n : Int) : Int × Option (Int × Nat) :=
  if n > v.1 then (1, some (n, if n - v.1 < 64 then (v.2 * 2 ^ (n - v.1).toNat) % 18446744073709551616 ||| 1 else 1))
  else if n - v.1 ≤ -64 then (3, none)
  else if v.2.testBit (v.1 - n).toNat then (2, none)
  else (1, some (v.1, v.2 ||| 2 ^ (v.1 - n).toNat))
/-- A window: without a map yet, or with one. -/
abbrev Wn := Option T
def tab : Wn → T
  | none => []
  | some t => t
def get (s : Wn) (p : Int) : Int × Nat := getT p (tab s)
def GoodW (s : Wn) : Prop := GoodT (tab s)
def come (s : Wn) (p n : Int) : Int × Wn := match comeV (get s p) n with
  | (c, some v) => (c, some (setT p v (tab s)))
  | (c, none) => (c, s)
theorem good_none : GoodW none := fun p => by simp [tab, getT]
theorem or_lt {a b : Nat} (ha : a < 18446744073709551616) (hb : b < 18446744073709551616) : a ||| b < 18446744073709551616 := Nat.or_lt_two_pow (n := 64) ha hb
theorem pow_lt64 {k : Nat} (h : k < 64) : 2 ^ k < 18446744073709551616 := by
  have : 2 ^ k < 2 ^ 64 := Nat.pow_lt_pow_right (by decide) h
  simpa using this
theorem come_good {s : Wn} {p n : Int} (hs : GoodW s) (hn : 1 ≤ n ∧ n ≤ 1073741824) : GoodW (come s p n).2 := by
  have h0 := hs p
  unfold come
  cases hc : comeV (get s p) n with
  | mk c o =>
    cases o with
    | none => exact hs
    | some v =>
      intro q
      show _ ∧ _ ∧ _
      simp only [tab]
      rw [getT_setT]
      split
      · unfold comeV at hc
        have h0 : 0 ≤ (get s p).1 ∧ (get s p).1 ≤ 1073741824 ∧ (get s p).2 < 18446744073709551616 := h0
        generalize get s p = u at *
        split at hc
        · simp only [Prod.mk.injEq, Option.some.injEq] at hc
          rw [← hc.2]
          refine ⟨by omega, by omega, ?_⟩
          dsimp only
          split
          · exact or_lt (Nat.mod_lt _ (by decide)) (by decide)
          · decide
        · split at hc
          · simp at hc
          · split at hc
            · simp at hc
            · simp only [Prod.mk.injEq, Option.some.injEq] at hc
              rw [← hc.2]
              exact ⟨h0.1, h0.2.1, or_lt h0.2.2 (pow_lt64 (by omega))⟩
      · exact hs q
theorem get_come (s : Wn) (p n q : Int) : get (come s p n).2 q = if q = p then (comeV (get s p) n).2.getD (get s p) else get s q := by
  unfold come
  cases hc : comeV (get s p) n with
  | mk c o =>
    cases o with
    | none =>
      dsimp only
      split
      · rename_i h; rw [h]; rfl
      · rfl
    | some v =>
      dsimp only [get, tab]
      rw [getT_setT]
      rfl
theorem come_fst (s : Wn) (p n : Int) : (come s p n).1 = (comeV (get s p) n).1 := by
  unfold come
  cases hc : comeV (get s p) n with
  | mk c o => cases o <;> rfl
/-! ### the store of a window -/
def winB (k : Nat) : Wn → Blk
  | none => .var [.d (.lit (.map none))]
  | some _ => .var [.map k]
def winM : Wn → List Blk
  | none => []
  | some t => [.map true (toE t)]
def winS (s : Wn) : Store := winB 1 s :: winM s
/-! ### bits -/
theorem wrapU {n : Int} (h1 : 0 ≤ n) (h2 : n < 18446744073709551616) : IntKind.u64.wrap n = n := by
  rw [show IntKind.u64.wrap n = (if (false && decide (n % (2 ^ 64 : Int) ≥ (2 ^ 63 : Int))) = true then n % (2 ^ 64 : Int) - (2 ^ 64 : Int) else n % (2 ^ 64 : Int)) from rfl]
  have e1 : (2 : Int) ^ 64 = 18446744073709551616 := by decide
  rw [e1]
  simp only [Bool.false_and, Bool.false_eq_true, if_false]
  omega
theorem wrapU_mod (n : Nat) : IntKind.u64.wrap (n : Int) = ((n % 18446744073709551616 : Nat) : Int) := by
  rw [show IntKind.u64.wrap (n : Int) = (if (false && decide ((n : Int) % (2 ^ 64 : Int) ≥ (2 ^ 63 : Int))) = true then (n : Int) % (2 ^ 64 : Int) - (2 ^ 64 : Int) else (n : Int) % (2 ^ 64 : Int)) from rfl]
  have e1 : (2 : Int) ^ 64 = 18446744073709551616 := by decide
  rw [e1]
  simp only [Bool.false_and, Bool.false_eq_true, if_false]
  omega
theorem bitsU : IntKind.u64.bits = 64 := rfl
theorem minU {k : Nat} (h : k ≤ 64) : min k IntKind.u64.bits = k := by rw [bitsU]; omega
theorem bvU {n : Nat} (h : n < 18446744073709551616) : (BitVec.ofInt 64 (n : Int)).toNat = n := by
  rw [BitVec.ofInt_natCast, BitVec.toNat_ofNat, Nat.mod_eq_of_lt (by simpa using h)]
theorem orU {a b : Nat} (ha : a < 18446744073709551616) (hb : b < 18446744073709551616) : IntKind.u64.wrap ((BitVec.ofInt IntKind.u64.bits (a : Int) ||| BitVec.ofInt IntKind.u64.bits (b : Int)).toNat : Nat) = ((a ||| b : Nat) : Int) := by
  rw [bitsU, BitVec.toNat_or, bvU ha, bvU hb, wrapU (by omega) (by have := or_lt ha hb; omega)]
theorem shlU {a k : Nat} (h : k ≤ 64) : IntKind.u64.wrap ((a : Int) * 2 ^ min k IntKind.u64.bits) = (((a * 2 ^ k) % 18446744073709551616 : Nat) : Int) := by
  rw [minU h, show ((a : Int) * 2 ^ k) = ((a * 2 ^ k : Nat) : Int) from by simp, wrapU_mod]
theorem shrU {a k : Nat} (h : k ≤ 64) : ((a : Int).fdiv (2 ^ min k IntKind.u64.bits)) = ((a / 2 ^ k : Nat) : Int) := by
  rw [minU h, Int.fdiv_eq_ediv_of_nonneg _ (Int.le_of_lt (Int.pow_pos (by omega)))]
  simp
theorem andU {a : Nat} (ha : a < 18446744073709551616) : IntKind.u64.wrap ((BitVec.ofInt IntKind.u64.bits (a : Int) &&& BitVec.ofInt IntKind.u64.bits 1).toNat : Nat) = ((a % 2 : Nat) : Int) := by
  have h1 : (BitVec.ofInt IntKind.u64.bits 1).toNat = 1 := rfl
  rw [BitVec.toNat_and, h1, bitsU, bvU ha, Nat.and_one_is_mod, wrapU (by omega) (by omega)]
theorem bit_mod (c k : Nat) : (((c / 2 ^ k % 2 : Nat) : Int) == 1) = c.testBit k := by
  rw [Nat.testBit_eq_decide_div_mod_eq]
  have : c / 2 ^ k % 2 = 0 ∨ c / 2 ^ k % 2 = 1 := by omega
  rcases this with h | h <;> simp [h]
end Go.Proofs.YtjibnmmpbpheiaaDoor.Wi
