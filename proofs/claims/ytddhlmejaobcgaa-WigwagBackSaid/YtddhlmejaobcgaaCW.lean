import Derived.Test.YtddhlmejaobcgaaAm23
import Derived.Test.YtddhlmejaobcgaaProg
set_option maxRecDepth 100000
set_option linter.unusedVariables false
set_option linter.unusedSimpArgs false
namespace Go.Proofs.Ytddhlmejaobcgaa.Co
open Go Go.Am
def tys : Tys := [(3, ⟨.scalar, false, 1, [.int .i64 0], [.int .i64], false, 0⟩), (54, ⟨.slice 56 1 8 false, false, 1, [.slice none 0 0], [.other], false, 0⟩), (70, ⟨.slice 3 1 8 false, false, 1, [.slice none 0 0], [.other], false, 0⟩), (56, ⟨.scalar, false, 1, [.int .u64 0], [.int .u64], false, 0⟩), (26, ⟨.slice 9 1 16 false, false, 1, [.slice none 0 0], [.other], false, 0⟩), (77, ⟨.struct [(0, 56), (1, 3), (2, 70)], true, 3, [.int .u64 0, .int .i64 0, .slice none 0 0], [.int .u64, .int .i64, .other], true, 0⟩), (23, ⟨.slice 38 4 40 false, false, 1, [.slice none 0 0], [.other], false, 0⟩), (101, ⟨.map 3 104, false, 1, [.map none], [.other], false, 0⟩), (38, ⟨.struct [(0, 3), (1, 3), (2, 3), (3, 9)], true, 4, [.int .i64 0, .int .i64 0, .int .i64 0, .string ⟨#[]⟩], [.int .i64, .int .i64, .int .i64, .str], true, 0⟩), (9, ⟨.str, false, 1, [.string ⟨#[]⟩], [.str], false, 0⟩), (55, ⟨.scalar, false, 1, [.int .u64 0], [.int .u64], false, 0⟩), (97, ⟨.struct [(0, 9), (1, 3), (2, 34)], true, 3, [.string ⟨#[]⟩, .int .i64 0, .nilIface], [.str, .int .i64, .other], false, 0⟩), (34, ⟨.iface, false, 1, [.nilIface], [.other], false, 0⟩), (151, ⟨.scalar, false, 1, [.int .u64 0], [.int .u64], false, 0⟩), (28, ⟨.struct [(0, 26), (1, 3), (2, 3), (3, 4)], true, 4, [.slice none 0 0, .int .i64 0, .int .i64 0, .bool false], [.other, .int .i64, .int .i64, .bool], true, 1⟩), (103, ⟨.struct [(0, 101)], true, 1, [.map none], [.other], true, 0⟩), (30, ⟨.array 2 26 1, true, 2, [.slice none 0 0, .slice none 0 0], [.other, .other], true, 1⟩), (25, ⟨.struct [(0, 3), (1, 23)], true, 2, [.int .i64 0, .slice none 0 0], [.int .i64, .other], true, 0⟩), (106, ⟨.struct [(0, 4), (1, 77)], true, 4, [.bool false, .int .u64 0, .int .i64 0, .slice none 0 0], [.bool, .int .u64, .int .i64, .other], true, 0⟩), (57, ⟨.slice 5 1 1 true, false, 1, [.slice none 0 0], [.other], false, 0⟩), (95, ⟨.scalar, false, 1, [.int .u64 0], [.int .u64], false, 0⟩), (42, ⟨.struct [(0, 3), (1, 3), (2, 9)], true, 3, [.int .i64 0, .int .i64 0, .string ⟨#[]⟩], [.int .i64, .int .i64, .str], true, 0⟩), (5, ⟨.scalar, false, 1, [.int .u8 0], [.int .u8], false, 0⟩), (4, ⟨.scalar, false, 1, [.bool false], [.bool], false, 0⟩), (59, ⟨.struct [(0, 57)], true, 1, [.slice none 0 0], [.other], true, 0⟩), (71, ⟨.ptr, false, 1, [.pointer none], [.other], false, 0⟩), (29, ⟨.array 2 28 4, true, 8, [.slice none 0 0, .int .i64 0, .int .i64 0, .bool false, .slice none 0 0, .int .i64 0, .int .i64 0, .bool false], [.other, .int .i64, .int .i64, .bool, .other, .int .i64, .int .i64, .bool], true, 1⟩), (143, ⟨.scalar, false, 1, [.int .u32 0], [.int .u32], false, 0⟩), (116, ⟨.struct [(0, 9), (1, 3), (2, 34)], true, 3, [.string ⟨#[]⟩, .int .i64 0, .nilIface], [.str, .int .i64, .other], false, 0⟩), (114, ⟨.ptr, false, 1, [.pointer none], [.other], false, 0⟩), (136, ⟨.scalar, false, 1, [.int .i64 0], [.int .i64], false, 0⟩), (85, ⟨.scalar, false, 1, [.int .i64 0], [.int .i64], false, 0⟩), (104, ⟨.ptr, false, 1, [.pointer none], [.other], false, 0⟩), (22, ⟨.slice 42 3 32 false, false, 1, [.slice none 0 0], [.other], false, 0⟩)]
theorem tysOk : TysOk Try.prog tys := TysOk.of (by kernel_rfl)
theorem mixed : Try.prog.follows .mixedOrders = true := by kernel_rfl
abbrev nI (n : Int) : D := .lit (.int .i64 n)
abbrev uI (n : Nat) : D := .lit (.int .u64 (n : Int))
abbrev bI (b : Bool) : AV := .d (.lit (.bool b))
abbrev sD (s : ByteArray) : D := .lit (.string s)
theorem ret_bI {a b : Bool} (h : a = b) : mkRet [.d (.lit (.bool a))] = bI b := by subst h; rfl
theorem ret_nI {a b : Int} (h : a = b) : mkRet [.d (.lit (.int .i64 a))] = .d (nI b) := by subst h; rfl
/-! ### numbers -/
theorem wrapU {n : Int} (h1 : 0 ≤ n) (h2 : n < 18446744073709551616) : IntKind.u64.wrap n = n := by
  rw [show IntKind.u64.wrap n = (if (false && decide (n % (2 ^ 64 : Int) ≥ (2 ^ 63 : Int))) = true then n % (2 ^ 64 : Int) - (2 ^ 64 : Int) else n % (2 ^ 64 : Int)) from rfl]
  have e1 : (2 : Int) ^ 64 = 18446744073709551616 := by decide
  rw [e1]
  simp only [Bool.false_and, Bool.false_eq_true, if_false]
  omega
theorem wrapU_mod (n : Int) : IntKind.u64.wrap n = n % 18446744073709551616 := by
  rw [show IntKind.u64.wrap n = (if (false && decide (n % (2 ^ 64 : Int) ≥ (2 ^ 63 : Int))) = true then n % (2 ^ 64 : Int) - (2 ^ 64 : Int) else n % (2 ^ 64 : Int)) from rfl]
  have e1 : (2 : Int) ^ 64 = 18446744073709551616 := by decide
  rw [e1]
  simp only [Bool.false_and, Bool.false_eq_true, if_false]
theorem wrap8 (n : Int) : IntKind.u8.wrap n = n % 256 := by
  rw [show IntKind.u8.wrap n = (if (false && decide (n % (2 ^ 8 : Int) ≥ (2 ^ 7 : Int))) = true then n % (2 ^ 8 : Int) - (2 ^ 8 : Int) else n % (2 ^ 8 : Int)) from rfl]
  have e1 : (2 : Int) ^ 8 = 256 := by decide
  rw [e1]
  simp only [Bool.false_and, Bool.false_eq_true, if_false]
theorem or128 : ∀ m : Fin 256, (BitVec.ofInt 8 ((m.val : Nat) : Int) ||| BitVec.ofInt 8 128).toNat = 128 + m.val % 128 := by decide +kernel
theorem bits8 : IntKind.u8.bits = 8 := rfl
theorem bits64' : IntKind.u64.bits = 64 := rfl
/-! ### what is written -/
/-- A number's bytes. -/
def enc (n : Nat) : List UInt8 := if n > 127 then UInt8.ofNat (128 + n % 128) :: enc (n / 128) else [UInt8.ofNat n]
termination_by n
decreasing_by omega
theorem enc_big {n : Nat} (h : n > 127) : enc n = UInt8.ofNat (128 + n % 128) :: enc (n / 128) := by rw [enc, if_pos h]
theorem enc_small {n : Nat} (h : ¬ n > 127) : enc n = [UInt8.ofNat n] := by rw [enc, if_neg h]
theorem enc_ne (n : Nat) : enc n ≠ [] := by
  rw [enc]
  split <;> simp
theorem enc_len : ∀ (k n : Nat), n < 128 ^ (k + 1) → (enc n).length ≤ k + 1
  | 0, n, h => by
    rw [enc_small (by simpa using (by omega : n < 128 ^ 1 → ¬ n > 127) h)]
    simp
  | k + 1, n, h => by
    by_cases hn : n > 127
    · rw [enc_big hn]
      have := enc_len k (n / 128) (by rw [Nat.div_lt_iff_lt_mul (by decide)]; rwa [Nat.pow_succ] at h)
      simpa using this
    · rw [enc_small hn]
      simp
theorem enc_len10 {n : Nat} (h : n < 18446744073709551616) : (enc n).length ≤ 10 := enc_len 9 n (Nat.lt_of_lt_of_le h (by decide))
/-- A byte as a cell. -/
abbrev bC (b : UInt8) : D := .lit (.int .u8 (b.toNat : Int))
def bc (bs : List UInt8) : List D := bs.map bC
theorem bc_len (bs : List UInt8) : (bc bs).length = bs.length := by simp [bc]
theorem bc_append (a b : List UInt8) : bc (a ++ b) = bc a ++ bc b := by simp [bc]
theorem bc_one (bs : List UInt8) : ∀ c ∈ bc bs, c.one = true := fun c h => by
  obtain ⟨b, _, rfl⟩ := List.mem_map.1 h
  rfl
theorem bc_byte (bs : List UInt8) : ∀ c ∈ bc bs, isByte c := fun c h => by
  obtain ⟨b, _, rfl⟩ := List.mem_map.1 h
  have := b.toNat_lt
  exact ⟨rfl, by show (0 : Int) ≤ (b.toNat : Int); omega, by show ((b.toNat : Nat) : Int) < 256; omega⟩
theorem bytesOf_bc (bs : List UInt8) : bytesOf (bc bs) = ⟨bs.toArray⟩ := by
  unfold bytesOf bc
  congr 1
  rw [List.map_map]
  congr 1
  refine (List.map_congr_left fun b _ => ?_).trans (List.map_id bs)
  show UInt8.ofNat ((b.toNat : Int)).toNat = b
  simp
theorem cellSmall {n : Nat} (h : ¬ n > 127) : D.lit (.int .u8 (IntKind.u8.wrap (n : Int))) = bC (UInt8.ofNat n) := by
  rw [wrap8]
  show D.lit (.int .u8 ((n : Int) % 256)) = D.lit (.int .u8 (((UInt8.ofNat n).toNat : Nat) : Int))
  rw [UInt8.toNat_ofNat']
  rfl
theorem cellBig (n : Nat) : D.lit (.int .u8 (IntKind.u8.wrap ((BitVec.ofInt IntKind.u8.bits (IntKind.u8.wrap (n : Int)) ||| BitVec.ofInt IntKind.u8.bits 128).toNat : Nat))) = bC (UInt8.ofNat (128 + n % 128)) := by
  rw [bits8, wrap8 (n : Int), show ((n : Int) % 256) = ((n % 256 : Nat) : Int) from by omega, or128 ⟨n % 256, Nat.mod_lt _ (by decide)⟩, wrap8]
  unfold bC
  congr 2
  rw [UInt8.toNat_ofNat']
  simp only
  omega
/-- A writer's block, and the row that its bytes lie in. -/
def wS : List UInt8 → Store
  | [] => [.var [.d (.lit (.slice none 0 0))]]
  | b :: r => [.var [.vec 1 (r.length + 1)], .vec 1 (r.length + 1) (bc (b :: r))]
theorem wS_ne {bs : List UInt8} (h : bs ≠ []) : wS bs = [.var [.vec 1 bs.length], .vec 1 bs.length (bc bs)] := by
  cases bs with
  | nil => exact absurd rfl h
  | cons b r => rfl
theorem wS_len (bs : List UInt8) : ∀ i, i < (wS bs).length → [0, 1][i]? = some i := fun i hi => by
  have : (wS bs).length ≤ 2 := by cases bs <;> simp [wS]
  have : i = 0 ∨ i = 1 := by omega
  rcases this with rfl | rfl <;> rfl
theorem div128 (n : Nat) : ((n : Int).fdiv (2 ^ min (7 : Int).toNat IntKind.u64.bits)) = ((n / 128 : Nat) : Int) := by
  rw [bits64', show min (7 : Int).toNat 64 = 7 from rfl, Int.fdiv_eq_ediv_of_nonneg _ (by decide), show ((2 : Int) ^ 7) = 128 from rfl]
  omega
def od18 : Ords := []
theorem code18 : codeB Try.f18.ntmps od18 (match Try.f18.body with | some c => c | none => .skip) = true := by kernel_rfl
def od70 : Ords := []
theorem code70 : codeB Try.f70.ntmps od70 (match Try.f70.body with | some c => c | none => .skip) = true := by kernel_rfl
def od71 : Ords := []
theorem code71 : codeB Try.f71.ntmps od71 (match Try.f71.body with | some c => c | none => .skip) = true := by kernel_rfl
def od20 : Ords := []
theorem code20 : codeB Try.f20.ntmps od20 (match Try.f20.body with | some c => c | none => .skip) = true := by kernel_rfl
theorem fitsN {k : Nat} (h : k + 1 ≤ 140737488355328) : (1 : Nat) = 1 ∧ k = k ∧ 1 * 1 = [D.lit (.int .u8 0)].length ∧ (k + 1) * 1 ≤ 140737488355328 ∧ k + 1 ≤ 9223372036854775807 := by
  refine ⟨rfl, rfl, rfl, by omega, by omega⟩
set_option maxHeartbeats 4000000 in
theorem ok18 (bs : List UInt8) (n : Nat) (hn : n < 18446744073709551616) (hb : bs.length + 10 ≤ 140737488355328) :
    CallOk Try.prog 18 [.ptr 0 0, .d (uI n)] (wS bs) (fun v σ => v = .tuple [] ∧ σ = wS (bs ++ enc n)) := by
  refine CallOk.of tysOk mixed od18 Try.func18 rfl rfl code18 ?_
  have hk := enc_len10 hn
  refine W.loop (fun k fr σ => ∃ (cs : List UInt8) (m : Nat), fr = [(0, .ptr 0 0), (1, .d (uI m))] ∧ σ = wS cs ∧ cs ++ enc m = bs ++ enc n ∧ m < 18446744073709551616 ∧ m = k) n
    (Start.of [0, 1] [] (by simp)) ⟨bs, n, rfl, by simp, rfl, hn, rfl⟩ ?_
  rintro k fr σ ⟨cs, m, rfl, rfl, he, hm, rfl⟩
  have hlen : cs.length + (enc m).length ≤ bs.length + 10 := by
    have := congrArg List.length he
    simp only [List.length_append] at this
    omega
  have hpos : 0 < (enc m).length := List.length_pos_iff.2 (enc_ne m)
  refine W.ite (fun c1 => ?_) (fun c1 => ?_)
  · have h1 : m > 127 := by have := of_decide_eq_true c1; omega
    have hx : (cs ++ [UInt8.ofNat (128 + m % 128)]) ++ enc (m / 128) = bs ++ enc n := by rw [← he, enc_big h1]; simp
    cases cs with
    | nil =>
      refine W.alt_l ?_
      refine W.need ⟨rfl, by decide, by decide, by intro c hc; rw [List.mem_singleton] at hc; subst hc; rfl⟩ ?_
      refine W.need (by decide) ?_
      refine W.ret ⟨m / 128, _, _, by omega, Trim.of [0, 1] [0, 1] (by decide) (by simp) (wS_len bs), _, m / 128, ?_, ?_, hx, by omega, rfl⟩
      · show _ = [(0, AV.ptr 0 0), (1, AV.d (.lit (.int .u64 ((m / 128 : Nat) : Int))))]
        rw [← div128]; rfl
      · show _ = [Blk.var [.vec 1 1], .vec 1 1 [bC (UInt8.ofNat (128 + m % 128))]]
        rw [← cellBig]
        rfl
    | cons b r =>
      refine W.alt_l ?_
      refine W.need ⟨rfl, rfl, rfl, by simp only [List.length_cons] at hlen; omega, by simp only [List.length_cons] at hlen; omega, by intro c hc; rw [List.mem_singleton] at hc; subst hc; rfl⟩ ?_
      refine W.need (by decide) ?_
      refine W.ret ⟨m / 128, _, _, by omega, Trim.of [0, 1] [0, 1] (by decide) (by simp) (wS_len bs), _, m / 128, ?_, ?_, hx, by omega, rfl⟩
      · show _ = [(0, AV.ptr 0 0), (1, AV.d (.lit (.int .u64 ((m / 128 : Nat) : Int))))]
        rw [← div128]; rfl
      · rw [wS_ne (by simp), bc_append]
        unfold bc
        rw [List.map_singleton, ← cellBig]
        simp only [List.length_append, List.length_cons, List.length_nil]
        rfl
  · have h1 : ¬ m > 127 := by have := of_decide_eq_false c1; omega
    have hx : cs ++ [UInt8.ofNat m] = bs ++ enc n := by rw [← he, enc_small h1]
    cases cs with
    | nil =>
      refine W.ret ?_
      refine W.alt_l ?_
      refine W.need ⟨rfl, by decide, by decide, by intro c hc; rw [List.mem_singleton] at hc; subst hc; rfl⟩ ?_
      refine W.ret ?_
      refine RetQ.all ⟨rfl, ?_⟩
      rw [← hx]
      show _ = [Blk.var [.vec 1 1], .vec 1 1 [bC (UInt8.ofNat m)]]
      rw [← cellSmall h1]
    | cons b r =>
      refine W.ret ?_
      refine W.alt_l ?_
      refine W.need ⟨rfl, rfl, rfl, by simp only [List.length_cons] at hlen; omega, by simp only [List.length_cons] at hlen; omega, by intro c hc; rw [List.mem_singleton] at hc; subst hc; rfl⟩ ?_
      refine W.ret ?_
      refine RetQ.all ⟨rfl, ?_⟩
      rw [← hx, wS_ne (by simp), bc_append]
      unfold bc
      rw [List.map_singleton, ← cellSmall h1]
      simp only [List.length_append, List.length_cons, List.length_nil]
/-- A call on a writer that is all there is. -/
theorem wr1 {f : FuncId} {r : List D} {bs bs' : List UInt8} {x : AV} {k : AV → Store → Res} {Q : AExit → Fr → Store → Prop} (hx : x.closed = true)
    (h : CallOk Try.prog f (.ptr 0 0 :: r.map .d) (wS bs) (fun v σ => v = x ∧ σ = wS bs')) (hm : bs' = [] → bs = []) (hk : W Try.prog (k x (wS bs')) Q) : W Try.prog (.call f (.ptr 0 0 :: r.map .d) (wS bs) [] k) Q := by
  have hr : ∀ (σ : Store) (ρ : Nat → Option Nat), AV.subL σ ρ (r.map .d) = r.map .d := fun σ ρ => by
    clear h hk
    induction r with
    | nil => rfl
    | cons a r ih =>
      simp only [List.map_cons, AV.subL, AV.sub]
      rw [ih]
  cases bs with
  | nil =>
    refine W.call [0] (by decide) (by simp [wS]) (by simp) (args' := .ptr 0 0 :: r.map .d) (σ' := wS []) ?_ rfl h ?_
    · show _ :: AV.subL _ _ (r.map .d) = _
      rw [hr]; rfl
    · rintro v σ ⟨rfl, rfl⟩
      rw [closed_sub hx]
      cases bs' <;> exact hk
  | cons b bs =>
    refine W.call [0, 1] (by decide) (by simp [wS]) (by simp) (args' := .ptr 0 0 :: r.map .d) (σ' := wS (b :: bs)) ?_ rfl h ?_
    · show _ :: AV.subL _ _ (r.map .d) = _
      rw [hr]; rfl
    · rintro v σ ⟨rfl, rfl⟩
      rw [closed_sub hx]
      cases bs' with
      | nil => cases hm rfl
      | cons b' r' => exact hk
/-! ### ints -/
/-- An int as a number. -/
def zz (a : Int) : Nat := if a ≥ 0 then (2 * a).toNat else (-2 * a - 1).toNat
theorem zz_lt {a : Int} (h1 : -9223372036854775808 ≤ a) (h2 : a < 9223372036854775808) : zz a < 18446744073709551616 := by
  unfold zz
  split <;> omega
theorem ofI0 : BitVec.ofInt 64 0 = 0#64 := rfl
theorem ofI1 : BitVec.ofInt 64 18446744073709551615 = BitVec.allOnes 64 := rfl
theorem ofIn {n : Nat} (h : n < 18446744073709551616) : (BitVec.ofInt 64 (n : Int)).toNat = n := by
  rw [BitVec.ofInt_natCast, BitVec.toNat_ofNat, Nat.mod_eq_of_lt (by simpa using h)]
theorem zzU {a : Int} (h1 : -9223372036854775808 ≤ a) (h2 : a < 9223372036854775808) :
    IntKind.u64.wrap ((BitVec.ofInt IntKind.u64.bits (IntKind.u64.wrap (IntKind.u64.wrap a * 2 ^ min (1 : Int).toNat IntKind.u64.bits)) ^^^ BitVec.ofInt IntKind.u64.bits (IntKind.u64.wrap (a.fdiv (2 ^ min (63 : Int).toNat IntKind.i64.bits)))).toNat : Nat) = (zz a : Int) := by
  rw [bits64', show IntKind.i64.bits = 64 from rfl, show min (1 : Int).toNat 64 = 1 from rfl, show min (63 : Int).toNat 64 = 63 from rfl, Int.fdiv_eq_ediv_of_nonneg _ (by decide), show ((2 : Int) ^ 63) = 9223372036854775808 from rfl, show ((2 : Int) ^ 1) = 2 from rfl]
  have hz := zz_lt h1 h2
  unfold zz at *
  by_cases h : a ≥ 0
  · rw [if_pos h] at *
    have e1 : a / 9223372036854775808 = 0 := by omega
    have e2 : IntKind.u64.wrap (IntKind.u64.wrap a * 2) = ((2 * a).toNat : Int) := by rw [wrapU_mod, wrapU_mod]; omega
    rw [e1, e2, show IntKind.u64.wrap 0 = 0 from by decide, ofI0, BitVec.xor_zero, ofIn hz, wrapU (by omega) (by omega)]
  · rw [if_neg h] at *
    have e1 : a / 9223372036854775808 = -1 := by omega
    have e2 : IntKind.u64.wrap (IntKind.u64.wrap a * 2) = ((18446744073709551615 - (-2 * a - 1).toNat : Nat) : Int) := by rw [wrapU_mod, wrapU_mod]; omega
    rw [e1, e2, show IntKind.u64.wrap (-1) = 18446744073709551615 from by decide, ofI1, BitVec.xor_allOnes, BitVec.toNat_not, ofIn (by omega)]
    rw [wrapU (by omega) (by omega)]
    omega
theorem ok70 (bs : List UInt8) (a : Int) (h1 : -9223372036854775808 ≤ a) (h2 : a < 9223372036854775808) (hb : bs.length + 10 ≤ 140737488355328) :
    CallOk Try.prog 70 [.ptr 0 0, .d (nI a)] (wS bs) (fun v σ => v = .tuple [] ∧ σ = wS (bs ++ enc (zz a))) := by
  refine CallOk.of tysOk mixed od70 Try.func70 rfl rfl code70 ?_
  have hz := zzU h1 h2
  have k := ok18 bs (zz a) (zz_lt h1 h2) hb
  have hu : uI (zz a) = .lit (.int .u64 (zz a : Int)) := rfl
  rw [hu, ← hz] at k
  refine W.need (by decide) ?_
  refine W.need (by decide) ?_
  refine wr1 (r := [.lit (.int .u64 _)]) rfl k (by intro h; have := enc_ne (zz a); simp_all) ?_
  refine W.ret ?_
  refine RetQ.all ⟨rfl, rfl⟩
theorem wrapNat {n : Nat} (h : n < 18446744073709551616) : IntKind.u64.wrap (n : Int) = (n : Int) := wrapU (by omega) (by omega)
/-- A text's bytes, written. -/
def encT (s : ByteArray) : List UInt8 := enc s.size ++ s.data.toList
theorem ok71 (bs : List UInt8) (s : ByteArray) (hb : bs.length + 10 + s.size ≤ 140737488355328) :
    CallOk Try.prog 71 [.ptr 0 0, .d (sD s)] (wS bs) (fun v σ => v = .tuple [] ∧ σ = wS (bs ++ encT s)) := by
  refine CallOk.of tysOk mixed od71 Try.func71 rfl rfl code71 ?_
  have k := ok18 bs s.size (by omega) (by omega)
  have hu : uI s.size = .lit (.int .u64 (s.size : Int)) := rfl
  rw [hu, ← wrapNat (n := s.size) (by omega)] at k
  refine wr1 (r := [.lit (.int .u64 _)]) rfl k (by intro h; have := enc_ne s.size; simp_all) ?_
  have hne : bs ++ enc s.size ≠ [] := by have := enc_ne s.size; simp_all
  have hl := enc_len10 (n := s.size) (by omega)
  have hsz : s.data.toList.length = s.size := by simp
  rw [wS_ne hne]
  refine W.need ⟨rfl, rfl, ?_, ?_, ?_, ?_⟩ ?_
  · show s.size * 1 = (bc s.data.toList).length
    rw [bc_len, hsz, Nat.mul_one]
  · simp only [List.length_append]; omega
  · simp only [List.length_append]; omega
  · exact bc_one s.data.toList
  refine W.ret ?_
  refine RetQ.all ⟨rfl, ?_⟩
  rw [wS_ne (by simp [hne, encT]; intro h; simp_all)]
  show [Blk.var [.vec 1 ((bs ++ enc s.size).length + s.size)], .vec 1 ((bs ++ enc s.size).length + s.size) (bc (bs ++ enc s.size) ++ bc s.data.toList)] = _
  rw [← bc_append, List.append_assoc]
  have : (bs ++ enc s.size).length + s.size = (bs ++ encT s).length := by unfold encT; simp only [List.length_append, hsz]; omega
  rw [this]
  rfl
theorem ok20 (bs : List UInt8) : CallOk Try.prog 20 [.ptr 0 0] (wS bs) (fun v σ => v = .d (sD ⟨bs.toArray⟩) ∧ σ = wS bs) := by
  refine CallOk.of tysOk mixed od20 Try.func20 rfl rfl code20 ?_
  cases bs with
  | nil =>
    refine W.need ⟨rfl, rfl, by simp⟩ ?_
    refine W.ret (RetQ.all ⟨rfl, rfl⟩)
  | cons b r =>
    have ht : (bc (b :: r)).take ((r.length + 1) * 1) = bc (b :: r) := by
      rw [List.take_of_length_le]
      rw [bc_len]; simp
    refine W.need ⟨rfl, ?_, ?_⟩ ?_
    · rw [ht, bc_len]; rfl
    · rw [ht]; exact bc_byte _
    refine W.ret (RetQ.all ⟨?_, rfl⟩)
    rw [ht, bytesOf_bc]
    rfl
end Go.Proofs.Ytddhlmejaobcgaa.Co
