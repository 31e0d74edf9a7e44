import Derived.Test.YtjibnmmpbpheiaaDoorW1
import Derived.Test.YtjibnmmpbpheiaaDoorProg
set_option maxRecDepth 100000
set_option linter.unusedVariables false
set_option linter.unusedSimpArgs false
namespace Go.Proofs.YtjibnmmpbpheiaaDoor.Wi
open Go Go.Am
def tys : Tys := [(3, ⟨.scalar, false, 1, [.int .i64 0], [.int .i64], false, 0⟩), (30, ⟨.struct [(0, 3), (1, 3)], true, 2, [.int .i64 0, .int .i64 0], [.int .i64, .int .i64], true, 0⟩), (46, ⟨.scalar, false, 1, [.int .u64 0], [.int .u64], false, 0⟩), (48, ⟨.struct [(0, 3), (1, 46)], true, 2, [.int .i64 0, .int .u64 0], [.int .i64, .int .u64], true, 0⟩), (26, ⟨.slice 30 2 16 false, false, 1, [.slice none 0 0], [.other], false, 0⟩), (23, ⟨.map 3 48, false, 1, [.map none], [.other], false, 0⟩), (25, ⟨.struct [(0, 23)], true, 1, [.map none], [.other], true, 0⟩), (22, ⟨.slice 28 2 16 false, false, 1, [.slice none 0 0], [.other], false, 0⟩), (37, ⟨.scalar, false, 1, [.int .i64 0], [.int .i64], false, 0⟩), (34, ⟨.iface, false, 1, [.nilIface], [.other], false, 0⟩), (28, ⟨.array 2 3 1, true, 2, [.int .i64 0, .int .i64 0], [.int .i64, .int .i64], true, 0⟩), (50, ⟨.ptr, false, 1, [.pointer none], [.other], false, 0⟩), (45, ⟨.struct [(0, 9), (1, 3), (2, 34)], true, 3, [.string ⟨#[]⟩, .int .i64 0, .nilIface], [.str, .int .i64, .other], false, 0⟩), (43, ⟨.ptr, false, 1, [.pointer none], [.other], false, 0⟩), (9, ⟨.str, false, 1, [.string ⟨#[]⟩], [.str], false, 0⟩)]
theorem tysOk : TysOk Tryd.prog tys := TysOk.of (by kernel_rfl)
theorem mixed : Tryd.prog.follows .mixedOrders = true := by kernel_rfl
def od6 : Ords := [(5, [0, 1, 2, 3, 4, 5, 6, 1007]), (17, [0, 1, 2, 3, 4, 5, 1006])]
theorem code6 : codeB Tryd.f6.ntmps od6 (match Tryd.f6.body with | some c => c | none => .skip) = true := by kernel_rfl
def od8 : Ords := []
theorem code8 : codeB Tryd.f8.ntmps od8 (match Tryd.f8.body with | some c => c | none => .skip) = true := by kernel_rfl
/-- The error of what is no event. -/
abbrev badE : D := .iface 43 (.box [.lit (.string ⟨#[119, 105, 110, 100, 111, 119]⟩), nI 0, .iface 37 (nI 1)] 0)
def inR (p n : Int) : Prop := 0 ≤ p ∧ p < 32 ∧ 1 ≤ n ∧ n ≤ 1073741824
instance (p n : Int) : Decidable (inR p n) := by unfold inR; infer_instance
abbrev ansC (c : Int) : AV := .tuple [.d (nI c), .d (.lit .nilIface)]
theorem newBits {c : Nat} {y k : Int} (hy : y = k) (h0 : 0 ≤ k) (h : k < 64) :
    IntKind.u64.wrap ((BitVec.ofInt IntKind.u64.bits (IntKind.u64.wrap ((c : Int) * 2 ^ min y.toNat IntKind.u64.bits)) ||| BitVec.ofInt IntKind.u64.bits 1).toNat : Nat) = (((c * 2 ^ k.toNat) % 18446744073709551616 ||| 1 : Nat) : Int) := by
  subst hy
  rw [shlU (by omega)]
  exact orU (b := 1) (Nat.mod_lt _ (by decide)) (by decide)
theorem oneBit {c : Nat} {y k : Int} (hc : c < 18446744073709551616) (hy : y = k) (h0 : 0 ≤ k) (h : k < 64) :
    IntKind.u64.wrap ((BitVec.ofInt IntKind.u64.bits (c : Int) ||| BitVec.ofInt IntKind.u64.bits (IntKind.u64.wrap (1 * 2 ^ min y.toNat IntKind.u64.bits))).toNat : Nat) = ((c ||| 2 ^ k.toNat : Nat) : Int) := by
  subst hy
  have := shlU (a := 1) (k := y.toNat) (by omega)
  have hp := pow_lt64 (k := y.toNat) (by omega)
  rw [show ((1 : Nat) : Int) = 1 from rfl] at this
  rw [this, Nat.one_mul, Nat.mod_eq_of_lt hp, orU hc hp]
theorem tstBit {c : Nat} {y k : Int} (hc : c < 18446744073709551616) (hy : y = k) (h0 : 0 ≤ k) (h : k < 64) :
    (IntKind.u64.wrap ((BitVec.ofInt IntKind.u64.bits ((c : Int).fdiv (2 ^ min y.toNat IntKind.u64.bits)) &&& BitVec.ofInt IntKind.u64.bits 1).toNat : Nat) == 1) = c.testBit k.toNat := by
  subst hy
  rw [shrU (by omega), andU (Nat.lt_of_le_of_lt (Nat.div_le_self _ _) hc)]
  exact bit_mod c y.toNat
theorem come_some {s : Wn} {p n c : Int} {v : Int × Nat} (h : comeV (get s p) n = (c, some v)) : come s p n = (c, some (setT p v (tab s))) := by unfold come; rw [h]
theorem come_none {s : Wn} {p n c : Int} (h : comeV (get s p) n = (c, none)) : come s p n = (c, s) := by unfold come; rw [h]
set_option maxHeartbeats 4000000 in
theorem ok6_none (p n : Int) (h : inR p n) : CallOk Tryd.prog 6 [.ptr 0 0, .d (nI p), .d (nI n)] (winS none) (fun v σ => v = ansC (come none p n).1 ∧ σ = winS (come none p n).2) := by
  obtain ⟨h1, h2, h3, h4⟩ := h
  have hc : comeV (get none p) n = (1, some (n, if n - 0 < 64 then (0 * 2 ^ (n - 0).toNat) % 18446744073709551616 ||| 1 else 1)) := by
    unfold comeV
    rw [if_pos (show n > (get none p).1 from by show n > 0; omega)]
    rfl
  rw [come_some hc]
  refine CallOk.of tysOk mixed od6 Tryd.func6 rfl rfl code6 ?_
  have d1 : decide (p < 0) = false := decide_eq_false (by omega)
  have d2 : decide (p ≥ 32) = false := decide_eq_false (by omega)
  have d3 : decide (n < 1) = false := decide_eq_false (by omega)
  have d4 : decide (n > 1073741824) = false := decide_eq_false (by omega)
  repeat (first | refine W.ite_t rfl ?_ | refine W.ite_f rfl ?_ | refine W.ite_f d1 ?_ | refine W.ite_f d2 ?_ | refine W.ite_f d3 ?_ | refine W.ite_f d4 ?_)
  refine W.need ⟨rfl, rfl, rfl, True.intro⟩ ?_
  have e0 : IntKind.i64.wrap (n - 0) = n - 0 := wrap64 (by omega) (by omega)
  have d5 : decide (IntKind.i64.wrap (n - 0) > 0) = true := by rw [e0]; exact decide_eq_true (by omega)
  refine W.ite_t d5 ?_
  generalize hX : (if n - 0 < 64 then (0 * 2 ^ (n - 0).toNat) % 18446744073709551616 ||| 1 else 1) = X
  have fin : ∀ {c : Int}, c = (X : Int) → ∀ {b : Blk}, RetQ (winS none).length (fun v σ => v = ansC 1 ∧ σ = winS (some [(p, n, X)])) .ret [(0, mkRet [.d (nI 1), .d (.lit .nilIface)])] [.var [.map 2], b, .map true (setM (.int .i64) (nI p) [nI n, .lit (.int .u64 c)] [])] := fun {c} hc b => by
    subst hc
    exact RetQ.part [0, 2] (by decide) (by simp) (by intro i hi; have : i = 0 := (by simp [winS, winM] at hi; omega); subst this; rfl) ⟨rfl, rfl⟩
  refine W.ite (fun c1 => ?_) (fun c1 => ?_)
  · have m1 : n - 0 < 64 := by
      have : decide (IntKind.i64.wrap (n - 0) < 64) = true := c1
      rw [e0] at this; exact of_decide_eq_true this
    refine W.need ?_ ?_
    · show 0 ≤ IntKind.i64.wrap (n - 0)
      omega
    refine W.ite_t rfl ?_
    refine W.need ⟨rfl, by simp⟩ ?_
    refine W.ret ?_
    refine fin ?_
    rw [← hX, if_pos m1]
    exact newBits (c := 0) e0 (by omega) m1
  · have m1 : ¬ n - 0 < 64 := by
      have : decide (IntKind.i64.wrap (n - 0) < 64) = false := c1
      rw [e0] at this; exact of_decide_eq_false this
    refine W.ite_t rfl ?_
    refine W.need ⟨rfl, by simp⟩ ?_
    refine W.ret ?_
    refine fin ?_
    rw [← hX, if_neg m1]
    rfl
/-- What the machine reads of a window's entry. -/
def Lof (p : Int) (t : T) : Int := (rdD ((findM (.int .i64) (nI p) (toE t)).getD [nI 0, uI 0]) 0).toI
def Cof (p : Int) (t : T) : Int := (rdD ((findM (.int .i64) (nI p) (toE t)).getD [nI 0, uI 0]) 1).toI
set_option maxHeartbeats 4000000 in
theorem ok6_some (t : T) (hs : GoodT t) (p n : Int) (h : inR p n) : CallOk Tryd.prog 6 [.ptr 0 0, .d (nI p), .d (nI n)] (winS (some t)) (fun v σ => v = ansC (come (some t) p n).1 ∧ σ = winS (come (some t) p n).2) := by
  obtain ⟨h1, h2, h3, h4⟩ := h
  refine CallOk.of tysOk mixed od6 Tryd.func6 rfl rfl code6 ?_
  have d1 : decide (p < 0) = false := decide_eq_false (by omega)
  have d2 : decide (p ≥ 32) = false := decide_eq_false (by omega)
  have d3 : decide (n < 1) = false := decide_eq_false (by omega)
  have d4 : decide (n > 1073741824) = false := decide_eq_false (by omega)
  repeat (first | refine W.ite_t rfl ?_ | refine W.ite_f rfl ?_ | refine W.ite_f d1 ?_ | refine W.ite_f d2 ?_ | refine W.ite_f d3 ?_ | refine W.ite_f d4 ?_)
  refine W.need ⟨rfl, keys_toE t⟩ ?_
  have hcs := find_toE p t
  have hv := hs p
  have hget : get (some t) p = getT p t := rfl
  generalize hu : getT p t = u at *
  obtain ⟨l, c⟩ := u
  simp only at hv
  have h0 : Lof p t = l := by unfold Lof; rw [hcs]; rfl
  have hc0 : Cof p t = (c : Int) := by unfold Cof; rw [hcs]; rfl
  refine W.need ?_ ?_
  · show ((findM (.int .i64) (nI p) (toE t)).getD [nI 0, uI 0]).length = 2 ∧ formedOk ((findM (.int .i64) (nI p) (toE t)).getD [nI 0, uI 0]) [.int .i64, .int .u64] 0
    rw [hcs]
    exact ⟨rfl, rfl, rfl, True.intro⟩
  have stay : ∀ {k : Int} {b : Blk}, comeV (l, c) n = (k, none) → RetQ (winS (some t)).length (fun v σ => v = ansC (come (some t) p n).1 ∧ σ = winS (come (some t) p n).2) .ret [(0, mkRet [.d (nI k), .d (.lit .nilIface)])] [.var [.map 1], .map true (toE t), b] := fun {k b} hk => by
    rw [come_none (hget ▸ hk)]
    exact RetQ.part [0, 1] (by decide) (by simp) (by intro i hi; have : i = 0 ∨ i = 1 := (by simp [winS, winM] at hi; omega); rcases this with rfl | rfl <;> rfl) ⟨rfl, rfl⟩
  have turn : ∀ {x y : Int} {v : Int × Nat} {b : Blk}, comeV (l, c) n = (1, some v) → x = v.1 → y = (v.2 : Int) → RetQ (winS (some t)).length (fun v σ => v = ansC (come (some t) p n).1 ∧ σ = winS (come (some t) p n).2) .ret [(0, mkRet [.d (nI 1), .d (.lit .nilIface)])] [.var [.map 1], .map true (setM (.int .i64) (nI p) [nI x, .lit (.int .u64 y)] (toE t)), b] := fun {x y v b} hk hx hy => by
    subst hx hy
    rw [come_some (hget ▸ hk), set_toE]
    exact RetQ.part [0, 1] (by decide) (by simp) (by intro i hi; have : i = 0 ∨ i = 1 := (by simp [winS, winM] at hi; omega); rcases this with rfl | rfl <;> rfl) ⟨rfl, rfl⟩
  have e0 : IntKind.i64.wrap (n - Lof p t) = n - l := by rw [h0]; exact wrap64 (by omega) (by omega)
  have e1 : IntKind.i64.wrap (0 - IntKind.i64.wrap (n - Lof p t)) = l - n := by rw [e0, wrap64 (by omega) (by omega)]; omega
  refine W.ite (fun c1 => ?_) (fun c1 => ?_)
  · have c1 : decide (IntKind.i64.wrap (n - Lof p t) > 0) = true := c1
    have m1 : n - l > 0 := by rw [e0] at c1; exact of_decide_eq_true c1
    have hk : comeV (l, c) n = (1, some (n, if n - l < 64 then (c * 2 ^ (n - l).toNat) % 18446744073709551616 ||| 1 else 1)) := by
      unfold comeV
      rw [if_pos (show n > (l, c).1 from by show n > l; omega)]
    refine W.ite (fun c2 => ?_) (fun c2 => ?_)
    · have c2 : decide (IntKind.i64.wrap (n - Lof p t) < 64) = true := c2
      have m2 : n - l < 64 := by rw [e0] at c2; exact of_decide_eq_true c2
      refine W.need ?_ ?_
      · show 0 ≤ IntKind.i64.wrap (n - Lof p t)
        omega
      refine W.ite_f rfl ?_
      refine W.need ⟨rfl, keys_toE t⟩ ?_
      refine W.ret ?_
      refine turn hk rfl ?_
      rw [if_pos m2]
      show IntKind.u64.wrap ((BitVec.ofInt IntKind.u64.bits (IntKind.u64.wrap (Cof p t * 2 ^ min (IntKind.i64.wrap (n - Lof p t)).toNat IntKind.u64.bits)) ||| BitVec.ofInt IntKind.u64.bits 1).toNat : Nat) = _
      rw [hc0]
      exact newBits e0 (by omega) m2
    · have c2 : decide (IntKind.i64.wrap (n - Lof p t) < 64) = false := c2
      have m2 : ¬ n - l < 64 := by rw [e0] at c2; exact of_decide_eq_false c2
      refine W.ite_f rfl ?_
      refine W.need ⟨rfl, keys_toE t⟩ ?_
      refine W.ret ?_
      refine turn hk rfl ?_
      rw [if_neg m2]
      rfl
  · have c1 : decide (IntKind.i64.wrap (n - Lof p t) > 0) = false := c1
    have m1 : ¬ n - l > 0 := by rw [e0] at c1; exact of_decide_eq_false c1
    refine W.ite (fun c2 => ?_) (fun c2 => ?_)
    · have c2 : decide (IntKind.i64.wrap (n - Lof p t) ≤ -64) = true := c2
      have m2 : n - l ≤ -64 := by rw [e0] at c2; exact of_decide_eq_true c2
      refine W.ret ?_
      refine stay ?_
      unfold comeV
      rw [if_neg (show ¬ n > (l, c).1 from by show ¬ n > l; omega), if_pos m2]
    · have c2 : decide (IntKind.i64.wrap (n - Lof p t) ≤ -64) = false := c2
      have m2 : ¬ n - l ≤ -64 := by rw [e0] at c2; exact of_decide_eq_false c2
      refine W.need ?_ ?_
      · show 0 ≤ IntKind.i64.wrap (0 - IntKind.i64.wrap (n - Lof p t))
        omega
      have tb := tstBit (c := c) hv.2.2 e1 (by omega) (by omega)
      refine W.ite (fun c3 => ?_) (fun c3 => ?_)
      · have c3 : (IntKind.u64.wrap ((BitVec.ofInt IntKind.u64.bits ((Cof p t).fdiv (2 ^ min (IntKind.i64.wrap (0 - IntKind.i64.wrap (n - Lof p t))).toNat IntKind.u64.bits)) &&& BitVec.ofInt IntKind.u64.bits 1).toNat : Nat) == 1) = true := c3
        rw [hc0, tb] at c3
        refine W.ret ?_
        refine stay ?_
        unfold comeV
        rw [if_neg (show ¬ n > (l, c).1 from by show ¬ n > l; omega), if_neg m2, if_pos c3]
      · have c3 : (IntKind.u64.wrap ((BitVec.ofInt IntKind.u64.bits ((Cof p t).fdiv (2 ^ min (IntKind.i64.wrap (0 - IntKind.i64.wrap (n - Lof p t))).toNat IntKind.u64.bits)) &&& BitVec.ofInt IntKind.u64.bits 1).toNat : Nat) == 1) = false := c3
        rw [hc0, tb] at c3
        have hk : comeV (l, c) n = (1, some (l, c ||| 2 ^ (l - n).toNat)) := by
          unfold comeV
          rw [if_neg (show ¬ n > (l, c).1 from by show ¬ n > l; omega), if_neg m2, if_neg (by rw [c3]; decide)]
        refine W.need ?_ ?_
        · show 0 ≤ IntKind.i64.wrap (0 - IntKind.i64.wrap (n - Lof p t))
          omega
        refine W.ite_f rfl ?_
        refine W.need ⟨rfl, keys_toE t⟩ ?_
        refine W.ret ?_
        refine turn hk h0 ?_
        show IntKind.u64.wrap ((BitVec.ofInt IntKind.u64.bits (Cof p t) ||| BitVec.ofInt IntKind.u64.bits (IntKind.u64.wrap (1 * 2 ^ min (IntKind.i64.wrap (0 - IntKind.i64.wrap (n - Lof p t))).toNat IntKind.u64.bits))).toNat : Nat) = _
        rw [hc0]
        exact oneBit hv.2.2 e1 (by omega) (by omega)
theorem ok6 (s : Wn) (hs : GoodW s) (p n : Int) (h : inR p n) : CallOk Tryd.prog 6 [.ptr 0 0, .d (nI p), .d (nI n)] (winS s) (fun v σ => v = ansC (come s p n).1 ∧ σ = winS (come s p n).2) := by
  cases s with
  | none => exact ok6_none p n h
  | some t => exact ok6_some t hs p n h
set_option maxHeartbeats 4000000 in
theorem ok6_bad (s : Wn) (p n : Int) (h : ¬ inR p n) : CallOk Tryd.prog 6 [.ptr 0 0, .d (nI p), .d (nI n)] (winS s) (fun v σ => v = .tuple [.d (nI 0), .d badE] ∧ σ = winS s) := by
  have fin : ∀ {b : Blk}, RetQ (winS s).length (fun v σ => v = .tuple [.d (nI 0), .d badE] ∧ σ = winS s) .ret [(0, mkRet [.d (nI 0), .d badE])] (winS s ++ [b]) := fun {b} => by
    cases s with
    | none => exact RetQ.part [0] (by decide) (by simp) (by intro i hi; have : i = 0 := (by simp [winS, winM] at hi; omega); subst this; rfl) ⟨rfl, rfl⟩
    | some t => exact RetQ.part [0, 1] (by decide) (by simp [winS, winM]) (by intro i hi; have : i = 0 ∨ i = 1 := (by simp [winS, winM] at hi; omega); rcases this with rfl | rfl <;> rfl) ⟨rfl, rfl⟩
  refine CallOk.of tysOk mixed od6 Tryd.func6 rfl rfl code6 ?_
  cases s with
  | none =>
    refine W.ite (fun c1 => ?_) (fun c1 => ?_)
    · repeat (first | refine W.ite_t rfl ?_ | refine W.ite_f rfl ?_ | refine W.ite_t c1 ?_)
      exact W.ret fin
    repeat (first | refine W.ite_t rfl ?_ | refine W.ite_f rfl ?_ | refine W.ite_f c1 ?_)
    refine W.ite (fun c2 => ?_) (fun c2 => ?_)
    · repeat (first | refine W.ite_t rfl ?_ | refine W.ite_f rfl ?_ | refine W.ite_f c1 ?_ | refine W.ite_t c2 ?_)
      exact W.ret fin
    repeat (first | refine W.ite_t rfl ?_ | refine W.ite_f rfl ?_ | refine W.ite_f c1 ?_ | refine W.ite_f c2 ?_)
    refine W.ite (fun c3 => ?_) (fun c3 => ?_)
    · repeat (first | refine W.ite_t rfl ?_ | refine W.ite_f rfl ?_ | refine W.ite_f c1 ?_ | refine W.ite_f c2 ?_ | refine W.ite_t c3 ?_)
      exact W.ret fin
    repeat (first | refine W.ite_t rfl ?_ | refine W.ite_f rfl ?_ | refine W.ite_f c1 ?_ | refine W.ite_f c2 ?_ | refine W.ite_f c3 ?_)
    refine W.ite (fun c4 => ?_) (fun c4 => ?_)
    · exact W.ret fin
    · have m1 := of_decide_eq_false c1
      have m2 := of_decide_eq_false c2
      have m3 := of_decide_eq_false c3
      have m4 := of_decide_eq_false c4
      exact absurd ⟨by omega, by omega, by omega, by omega⟩ h
  | some t =>
    refine W.ite (fun c1 => ?_) (fun c1 => ?_)
    · repeat (first | refine W.ite_t rfl ?_ | refine W.ite_f rfl ?_ | refine W.ite_t c1 ?_)
      exact W.ret fin
    repeat (first | refine W.ite_t rfl ?_ | refine W.ite_f rfl ?_ | refine W.ite_f c1 ?_)
    refine W.ite (fun c2 => ?_) (fun c2 => ?_)
    · repeat (first | refine W.ite_t rfl ?_ | refine W.ite_f rfl ?_ | refine W.ite_f c1 ?_ | refine W.ite_t c2 ?_)
      exact W.ret fin
    repeat (first | refine W.ite_t rfl ?_ | refine W.ite_f rfl ?_ | refine W.ite_f c1 ?_ | refine W.ite_f c2 ?_)
    refine W.ite (fun c3 => ?_) (fun c3 => ?_)
    · repeat (first | refine W.ite_t rfl ?_ | refine W.ite_f rfl ?_ | refine W.ite_f c1 ?_ | refine W.ite_f c2 ?_ | refine W.ite_t c3 ?_)
      exact W.ret fin
    repeat (first | refine W.ite_t rfl ?_ | refine W.ite_f rfl ?_ | refine W.ite_f c1 ?_ | refine W.ite_f c2 ?_ | refine W.ite_f c3 ?_)
    refine W.ite (fun c4 => ?_) (fun c4 => ?_)
    · exact W.ret fin
    · have m1 := of_decide_eq_false c1
      have m2 := of_decide_eq_false c2
      have m3 := of_decide_eq_false c3
      have m4 := of_decide_eq_false c4
      exact absurd ⟨by omega, by omega, by omega, by omega⟩ h
theorem ok8 (s : Wn) (p : Int) : CallOk Tryd.prog 8 [.ptr 0 0, .d (nI p)] (winS s) (fun v σ => v = .d (nI (get s p).1) ∧ σ = winS s) := by
  refine CallOk.of tysOk mixed od8 Tryd.func8 rfl rfl code8 ?_
  cases s with
  | none =>
    refine W.need ⟨rfl, rfl, rfl, True.intro⟩ ?_
    refine W.ret ?_
    exact RetQ.part [0] (by decide) (by simp [winS]) (by intro i hi; have : i = 0 := (by simp [winS, winM] at hi; omega); subst this; rfl) ⟨rfl, rfl⟩
  | some t =>
    have hcs := find_toE p t
    have h0 : Lof p t = (getT p t).1 := by unfold Lof; rw [hcs]; rfl
    refine W.need ⟨rfl, keys_toE t⟩ ?_
    refine W.need ?_ ?_
    · show ((findM (.int .i64) (nI p) (toE t)).getD [nI 0, uI 0]).length = 2 ∧ formedOk ((findM (.int .i64) (nI p) (toE t)).getD [nI 0, uI 0]) [.int .i64, .int .u64] 0
      rw [hcs]
      exact ⟨rfl, rfl, rfl, True.intro⟩
    refine W.ret ?_
    refine RetQ.part [0, 1] (by decide) (by simp [winS, winM]) (by intro i hi; have : i = 0 ∨ i = 1 := (by simp [winS, winM] at hi; omega); rcases this with rfl | rfl <;> rfl) ⟨?_, rfl⟩
    show AV.d (nI (Lof p t)) = _
    rw [h0]
    rfl
end Go.Proofs.YtjibnmmpbpheiaaDoor.Wi
