import Derived.Test.YtddhlmejaobcgaaE0
import Derived.Test.YtddhlmejaobcgaaAm23
import Derived.Test.YtddhlmejaobcgaaProg
set_option maxRecDepth 100000
set_option linter.unusedVariables false
set_option linter.unusedSimpArgs false
/- Package bag: what it keeps; faults; places. -/
namespace Go.Proofs.Ytddhlmejaobcgaa.Bg
open Go Go.Am
def tys : Tys := [(3, ⟨.scalar, false, 1, [.int .i64 0], [.int .i64], false, 0⟩), (54, ⟨.slice 56 1 8 false, false, 1, [.slice none 0 0], [.other], false, 0⟩), (70, ⟨.slice 3 1 8 false, false, 1, [.slice none 0 0], [.other], false, 0⟩), (56, ⟨.scalar, false, 1, [.int .u64 0], [.int .u64], false, 0⟩), (26, ⟨.slice 9 1 16 false, false, 1, [.slice none 0 0], [.other], false, 0⟩), (77, ⟨.struct [(0, 56), (1, 3), (2, 70)], true, 3, [.int .u64 0, .int .i64 0, .slice none 0 0], [.int .u64, .int .i64, .other], true, 0⟩), (23, ⟨.slice 38 4 40 false, false, 1, [.slice none 0 0], [.other], false, 0⟩), (101, ⟨.map 3 104, false, 1, [.map none], [.other], false, 0⟩), (38, ⟨.struct [(0, 3), (1, 3), (2, 3), (3, 9)], true, 4, [.int .i64 0, .int .i64 0, .int .i64 0, .string ⟨#[]⟩], [.int .i64, .int .i64, .int .i64, .str], true, 0⟩), (9, ⟨.str, false, 1, [.string ⟨#[]⟩], [.str], false, 0⟩), (55, ⟨.scalar, false, 1, [.int .u64 0], [.int .u64], false, 0⟩), (97, ⟨.struct [(0, 9), (1, 3), (2, 34)], true, 3, [.string ⟨#[]⟩, .int .i64 0, .nilIface], [.str, .int .i64, .other], false, 0⟩), (34, ⟨.iface, false, 1, [.nilIface], [.other], false, 0⟩), (151, ⟨.scalar, false, 1, [.int .u64 0], [.int .u64], false, 0⟩), (28, ⟨.struct [(0, 26), (1, 3), (2, 3), (3, 4)], true, 4, [.slice none 0 0, .int .i64 0, .int .i64 0, .bool false], [.other, .int .i64, .int .i64, .bool], true, 0⟩), (103, ⟨.struct [(0, 101)], true, 1, [.map none], [.other], true, 0⟩), (30, ⟨.array 2 26 1, true, 2, [.slice none 0 0, .slice none 0 0], [.other, .other], true, 0⟩), (25, ⟨.struct [(0, 3), (1, 23)], true, 2, [.int .i64 0, .slice none 0 0], [.int .i64, .other], true, 104⟩), (106, ⟨.struct [(0, 4), (1, 77)], true, 4, [.bool false, .int .u64 0, .int .i64 0, .slice none 0 0], [.bool, .int .u64, .int .i64, .other], true, 0⟩), (57, ⟨.slice 5 1 1 true, false, 1, [.slice none 0 0], [.other], false, 0⟩), (95, ⟨.scalar, false, 1, [.int .u64 0], [.int .u64], false, 0⟩), (42, ⟨.struct [(0, 3), (1, 3), (2, 9)], true, 3, [.int .i64 0, .int .i64 0, .string ⟨#[]⟩], [.int .i64, .int .i64, .str], true, 0⟩), (5, ⟨.scalar, false, 1, [.int .u8 0], [.int .u8], false, 0⟩), (4, ⟨.scalar, false, 1, [.bool false], [.bool], false, 0⟩), (59, ⟨.struct [(0, 57)], true, 1, [.slice none 0 0], [.other], true, 0⟩), (71, ⟨.ptr, false, 1, [.pointer none], [.other], false, 0⟩), (29, ⟨.array 2 28 4, true, 8, [.slice none 0 0, .int .i64 0, .int .i64 0, .bool false, .slice none 0 0, .int .i64 0, .int .i64 0, .bool false], [.other, .int .i64, .int .i64, .bool, .other, .int .i64, .int .i64, .bool], true, 0⟩), (143, ⟨.scalar, false, 1, [.int .u32 0], [.int .u32], false, 0⟩), (116, ⟨.struct [(0, 9), (1, 3), (2, 34)], true, 3, [.string ⟨#[]⟩, .int .i64 0, .nilIface], [.str, .int .i64, .other], false, 0⟩), (114, ⟨.ptr, false, 1, [.pointer none], [.other], false, 0⟩), (136, ⟨.scalar, false, 1, [.int .i64 0], [.int .i64], false, 0⟩), (85, ⟨.scalar, false, 1, [.int .i64 0], [.int .i64], false, 0⟩), (104, ⟨.ptr, false, 1, [.pointer none], [.other], false, 0⟩), (22, ⟨.slice 42 3 32 false, false, 1, [.slice none 0 0], [.other], false, 0⟩)]
theorem tysOk : TysOk Try.prog tys := TysOk.of (by kernel_rfl)
theorem mixed : Try.prog.follows .mixedOrders = true := by kernel_rfl
abbrev nI (n : Int) : D := .lit (.int .i64 n)
abbrev bI (b : Bool) : AV := .d (.lit (.bool b))
abbrev sD (s : ByteArray) : D := .lit (.string s)
theorem ret_bI {a b : Bool} (h : a = b) : mkRet [.d (.lit (.bool a))] = bI b := by subst h; rfl
theorem ret_nI {a b : Int} (h : a = b) : mkRet [.d (.lit (.int .i64 a))] = .d (nI b) := by subst h; rfl
theorem beq_int {a b : Int} : (a == b) = decide (a = b) := by
  by_cases h : a = b
  · rw [h]; simp
  · rw [decide_eq_false h]; simpa using h
def od32 : Ords := []
theorem code32 : codeB Try.f32.ntmps od32 (match Try.f32.body with | some c => c | none => .skip) = true := by kernel_rfl
def od57 : Ords := []
theorem code57 : codeB Try.f57.ntmps od57 (match Try.f57.body with | some c => c | none => .skip) = true := by kernel_rfl
def od56 : Ords := []
theorem code56 : codeB Try.f56.ntmps od56 (match Try.f56.body with | some c => c | none => .skip) = true := by kernel_rfl
def od33 : Ords := []
theorem code33 : codeB Try.f33.ntmps od33 (match Try.f33.body with | some c => c | none => .skip) = true := by kernel_rfl
def od36 : Ords := []
theorem code36 : codeB Try.f36.ntmps od36 (match Try.f36.body with | some c => c | none => .skip) = true := by kernel_rfl
def od7 : Ords := []
theorem code7 : codeB Try.f7.ntmps od7 (match Try.f7.body with | some c => c | none => .skip) = true := by kernel_rfl
def od11 : Ords := []
theorem code11 : codeB Try.f11.ntmps od11 (match Try.f11.body with | some c => c | none => .skip) = true := by kernel_rfl
abbrev bagW : ByteArray := ⟨#[98, 97, 103]⟩
abbrev fE (c : Int) : D := Er.ftD bagW 0 c
def errD (c : Int) : D := if c = 0 then .lit .nilIface else fE c
theorem ok32 (c : Int) : Go.Am.Pure Try.prog 32 [.d (nI c)] (.d (fE c)) := by
  refine CallOk.of tysOk mixed od32 Try.func32 rfl rfl code32 ?_
  exact W.ret (RetQ.pure rfl rfl)
/-- A packet. -/
structure Pk where
  id : Int
  fr : Int
  to : Int
  tx : ByteArray
def pkC (p : Pk) : List D := [nI p.id, nI p.fr, nI p.to, sD p.tx]
theorem pkC_len (p : Pk) : (pkC p).length = 4 := rfl
theorem pkC_one (p : Pk) : ∀ d ∈ pkC p, d.one = true := fun d h => by
  simp only [pkC, List.mem_cons, List.not_mem_nil, or_false] at h
  rcases h with rfl | rfl | rfl | rfl <;> rfl
theorem pk_flat (l : List Pk) : (flat pkC l).length = l.length * 4 := flat_length pkC_len l
theorem pkE {l : List Pk} {i : Nat} {p : Pk} (h : l[i]? = some p) (j : List D) : Elem (flat pkC l ++ j) [.int .i64, .int .i64, .int .i64, .str] (0 + i * 4) 4 (pkC p) := by
  rw [Nat.zero_add]
  exact (Elem.all pkC_len h [.int .i64, .int .i64, .int .i64, .str] rfl ⟨rfl, rfl, rfl, rfl, True.intro⟩ rfl).left rfl j
theorem pkF1 {l : List Pk} {i : Nat} {p : Pk} (h : l[i]? = some p) (j : List D) : Elem (flat pkC l ++ j) [.int .i64] (0 + i * 4 + 1) 1 [nI p.fr] := by
  rw [Nat.zero_add]
  exact (Elem.of pkC_len h [.int .i64] 1 rfl (by decide) ⟨rfl, True.intro⟩ rfl).left rfl j
theorem pkF2 {l : List Pk} {i : Nat} {p : Pk} (h : l[i]? = some p) (j : List D) : Elem (flat pkC l ++ j) [.int .i64] (0 + i * 4 + 2) 1 [nI p.to] := by
  rw [Nat.zero_add]
  exact (Elem.of pkC_len h [.int .i64] 2 rfl (by decide) ⟨rfl, True.intro⟩ rfl).left rfl j
theorem pkF3 {l : List Pk} {i : Nat} {p : Pk} (h : l[i]? = some p) (j : List D) : Elem (flat pkC l ++ j) [.str] (0 + i * 4 + 3) 1 [sD p.tx] := by
  rw [Nat.zero_add]
  exact (Elem.of pkC_len h [.str] 3 rfl (by decide) ⟨rfl, True.intro⟩ rfl).left rfl j
/-- A bag: the last number, the packets; the row's epoch, what lies behind. -/
structure B where
  n : Int
  l : List Pk
  e : Nat
  j : List D
abbrev rowS (e : Nat) (l : List Pk) (j : List D) : Blk := .row 4 e (flat pkC l ++ j)
abbrev bS (b : B) : Store := [rowS b.e b.l b.j, .var [.d (nI b.n), .row 0 b.e 0 b.l.length]]
theorem keep1 : ∀ i, i < 1 → [0][i]? = some i := by
  intro j hj; obtain rfl : j = 0 := (by omega); rfl
theorem keep2 : ∀ i, i < 2 → [0, 1][i]? = some i := by
  intro j hj; have : j = 0 ∨ j = 1 := (by omega); rcases this with rfl | rfl <;> rfl
theorem be (e : Nat) : (Nat.beq 4 4 && Nat.beq e e) = true := by simp
/-! ### which -/
theorem ok57 (p : Pk) (x : Int) : CallOk Try.prog 57 [.d (.agg (pkC p)), .ptr 0 0] [.var [.d (nI x)]] (fun v s => v = bI (p.id == x) ∧ s = [.var [.d (nI x)]]) := by
  refine CallOk.of tysOk mixed od57 Try.func57 rfl rfl code57 ?_
  exact W.ret (RetQ.part [0] (by decide) (by simp) keep1 ⟨rfl, rfl⟩)
/-- The first place that is meant; -1: none. -/
def ixD (t : Pk → Bool) : List Pk → Nat → Int
  | [], _ => -1
  | p :: r, i => if t p = true then (i : Int) else ixD t r (i + 1)
theorem drop_pk {l : List Pk} {i : Nat} {p : Pk} (h : l[i]? = some p) : l.drop i = p :: l.drop (i + 1) := by
  obtain ⟨h1, h2⟩ := List.getElem?_eq_some_iff.1 h
  rw [List.drop_eq_getElem_cons h1, h2]
set_option maxHeartbeats 4000000 in
theorem ok56 (f : FuncId) (t : Pk → Bool) (x : Int) (H : ∀ p, CallOk Try.prog f [.d (.agg (pkC p)), .ptr 0 0] [.var [.d (nI x)]] (fun v s => v = bI (t p) ∧ s = [.var [.d (nI x)]])) (e : Nat) (l : List Pk) (hl : l.length ≤ 1000000) (j : List D) :
    CallOk Try.prog 56 [.row 0 e 0 l.length, .fn f [.ptr 1 0]] [rowS e l j, .var [.d (nI x)]] (fun v s => v = .d (nI (ixD t l 0)) ∧ s = [rowS e l j, .var [.d (nI x)]]) := by
  refine CallOk.of tysOk mixed od56 Try.func56 rfl rfl code56 ?_
  refine W.loop (fun k fr σ => ∃ i : Nat, fr = [(0, .row 0 e 0 l.length), (1, .fn f [.ptr 1 0]), (7, .d (nI l.length)), (8, .d (nI i))] ∧ σ = [rowS e l j, .var [.d (nI x)]] ∧ i ≤ l.length ∧ ixD t (l.drop i) i = ixD t l 0 ∧ k = l.length - i) l.length
    (Start.of [0, 1, 7, 8] [] (by simp)) ⟨0, rfl, rfl, by omega, rfl, rfl⟩ ?_
  rintro k fr σ ⟨i, rfl, rfl, hi, hx, rfl⟩
  refine W.ite (fun c1 => ?_) (fun c1 => ?_)
  · have hil : i < l.length := by have := of_decide_eq_true c1; omega
    obtain ⟨p, hp⟩ : ∃ x, l[i]? = some x := ⟨_, List.getElem?_eq_getElem hil⟩
    refine W.cond_t (be e) ?_
    refine W.need ⟨by omega, by omega⟩ ?_
    refine W.cond_t (be e) ?_
    refine W.ld (pkE hp j) ?_
    refine W.callF [1] [rowS e l j, .var [.d (nI x)]] (H p) (by decide) rfl rfl rfl rfl rfl rfl ?_
    rw [drop_pk hp, ixD] at hx
    refine W.ite (fun c2 => ?_) (fun c2 => ?_)
    · rw [if_pos c2] at hx
      refine W.ret (W.ret (RetQ.part [0, 1] (by decide) (by simp) keep2 ⟨?_, rfl⟩))
      rw [← hx]; rfl
    · rw [if_neg (by rw [c2]; simp)] at hx
      have g1 : IntKind.i64.wrap ((i : Int) + 1) = ((i + 1 : Nat) : Int) := by rw [wrap64 (by omega) (by omega)]; rfl
      refine W.ret ⟨_, _, _, ?_, Trim.of [0, 1, 7, 8] [0, 1] (by decide) (by simp) keep2, i + 1, ?_, rfl, by omega, hx, rfl⟩
      · omega
      · rw [← g1]; rfl
  · have hil : i = l.length := by have := of_decide_eq_false c1; omega
    rw [List.drop_of_length_le (by omega), ixD] at hx
    refine W.ret (W.ret (RetQ.part [0, 1] (by decide) (by simp) keep2 ⟨?_, rfl⟩))
    rw [← hx]; rfl
def ixI (x : Int) (l : List Pk) : Int := ixD (fun p => p.id == x) l 0
theorem ok33 (b : B) (x : Int) (hl : b.l.length ≤ 1000000) : CallOk Try.prog 33 [.ptr 1 0, .d (nI x)] (bS b) (fun v s => v = .d (nI (ixI x b.l)) ∧ s = bS b) := by
  refine CallOk.of tysOk mixed od33 Try.func33 rfl rfl code33 ?_
  refine W.callF [0, 2] (bS b ++ [.var [.d (nI x)]]) (ok56 57 (fun p => p.id == x) x (fun p => ok57 p x) b.e b.l hl b.j) (by decide) rfl rfl rfl rfl rfl rfl ?_
  exact W.ret (RetQ.part [0, 1] (by decide) (by simp) keep2 ⟨rfl, rfl⟩)
/-! ### all -/
theorem ok7 (b : B) : CallOk Try.prog 7 [.ptr 1 0] (bS b) (fun v s => v = .d (nI b.l.length) ∧ s = bS b) := by
  refine CallOk.of tysOk mixed od7 Try.func7 rfl rfl code7 ?_
  exact W.ret (RetQ.part [0, 1] (by decide) (by simp) keep2 ⟨rfl, rfl⟩)
abbrev slP (l : List Pk) : AV := slF pkC l
set_option maxHeartbeats 4000000 in
theorem ok36 (e : Nat) (l : List Pk) (hl : l.length ≤ 1000000) (j : List D) : CallOk Try.prog 36 [.row 0 e 0 l.length] [rowS e l j] (fun v s => v = slP l ∧ s = [rowS e l j]) := by
  refine CallOk.softG ?_
  refine CallOk.of tysOk mixed od36 Try.func36 rfl rfl code36 ?_
  have fin : ∀ {k : AV}, k = .d (.sl (0 + l.length) (([] ++ flat pkC l).take ((0 + l.length) * 4))) → k.softG = slP l := fun {k} hk => by
    rw [hk, Nat.zero_add, List.nil_append, flat_all pkC_len]
    rfl
  refine W.ite (fun c => ?_) (fun c => ?_)
  · have h0 : l = [] := List.eq_nil_of_length_eq_zero (by simpa using c)
    subst h0
    refine W.both ?_ ?_
    · refine W.ite_t rfl ?_
      exact W.ret (RetQ.part [0] (by decide) (by simp) keep1 ⟨rfl, rfl⟩)
    · refine W.ite_f rfl ?_
      refine W.need rfl ?_
      refine W.need ⟨rfl, rfl, rfl, by decide, by decide, by intro c hc; cases hc⟩ ?_
      exact W.ret (RetQ.part [0] (by decide) (by simp) keep1 ⟨fin rfl, rfl⟩)
  · refine W.ite_f rfl ?_
    have ht : ((flat pkC l ++ j).drop 0).take (l.length * 4) = flat pkC l := by rw [List.drop_zero, List.take_left' (pk_flat l)]
    refine W.need rfl ?_
    refine W.need ⟨rfl, rfl, by rw [ht, pk_flat], by omega, by omega, by rw [ht]; exact flat_one pkC_one l⟩ ?_
    refine W.ret (RetQ.part [0] (by decide) (by simp) keep1 ⟨fin ?_, rfl⟩)
    show AV.d (.sl (0 + l.length) (([] ++ ((flat pkC l ++ j).drop 0).take (l.length * 4)).take ((0 + l.length) * 4))) = _
    rw [ht]
theorem ok11 (b : B) (hl : b.l.length ≤ 1000000) : CallOk Try.prog 11 [.ptr 1 0] (bS b) (fun v s => v = slP b.l ∧ s = bS b) := by
  refine CallOk.of tysOk mixed od11 Try.func11 rfl rfl code11 ?_
  refine W.callF [0] (bS b) (ok36 b.e b.l hl b.j) (by decide) rfl rfl rfl rfl rfl rfl ?_
  exact W.ret (RetQ.part [0, 1] (by decide) (by simp) keep2 ⟨rfl, rfl⟩)
end Go.Proofs.Ytddhlmejaobcgaa.Bg
