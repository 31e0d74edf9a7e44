import Derived.Test.YtddhlmejaobcgaaPQuf
set_option maxRecDepth 100000
set_option linter.unusedVariables false
set_option linter.unusedSimpArgs false
/- Rows: sorted, copied, made of unlike elements. -/
namespace Go.Proofs.Ytddhlmejaobcgaa.Pu
open Go Go.Am Co
def tysR : Tys := [(3, ⟨.scalar, false, 1, [.int .i64 0], [.int .i64], false, 0⟩), (54, ⟨.slice 56 1 8 false, false, 1, [.slice none 0 0], [.other], false, 7⟩), (70, ⟨.slice 3 1 8 false, false, 1, [.slice none 0 0], [.other], false, 0⟩), (56, ⟨.scalar, false, 1, [.int .u64 0], [.int .u64], false, 0⟩), (26, ⟨.slice 9 1 16 false, false, 1, [.slice none 0 0], [.other], false, 0⟩), (77, ⟨.struct [(0, 56), (1, 3), (2, 70)], true, 3, [.int .u64 0, .int .i64 0, .slice none 0 0], [.int .u64, .int .i64, .other], true, 0⟩), (23, ⟨.slice 38 4 40 false, false, 1, [.slice none 0 0], [.other], false, 0⟩), (101, ⟨.map 3 104, false, 1, [.map none], [.other], false, 0⟩), (38, ⟨.struct [(0, 3), (1, 3), (2, 3), (3, 9)], true, 4, [.int .i64 0, .int .i64 0, .int .i64 0, .string ⟨#[]⟩], [.int .i64, .int .i64, .int .i64, .str], true, 0⟩), (9, ⟨.str, false, 1, [.string ⟨#[]⟩], [.str], false, 0⟩), (55, ⟨.scalar, false, 1, [.int .u64 0], [.int .u64], false, 0⟩), (97, ⟨.struct [(0, 9), (1, 3), (2, 34)], true, 3, [.string ⟨#[]⟩, .int .i64 0, .nilIface], [.str, .int .i64, .other], false, 0⟩), (34, ⟨.iface, false, 1, [.nilIface], [.other], false, 0⟩), (151, ⟨.scalar, false, 1, [.int .u64 0], [.int .u64], false, 0⟩), (28, ⟨.struct [(0, 26), (1, 3), (2, 3), (3, 4)], true, 4, [.slice none 0 0, .int .i64 0, .int .i64 0, .bool false], [.other, .int .i64, .int .i64, .bool], true, 0⟩), (103, ⟨.struct [(0, 101)], true, 1, [.map none], [.other], true, 0⟩), (30, ⟨.array 2 26 1, true, 2, [.slice none 0 0, .slice none 0 0], [.other, .other], true, 0⟩), (25, ⟨.struct [(0, 3), (1, 23)], true, 2, [.int .i64 0, .slice none 0 0], [.int .i64, .other], true, 0⟩), (106, ⟨.struct [(0, 4), (1, 77)], true, 4, [.bool false, .int .u64 0, .int .i64 0, .slice none 0 0], [.bool, .int .u64, .int .i64, .other], true, 0⟩), (57, ⟨.slice 5 1 1 true, false, 1, [.slice none 0 0], [.other], false, 0⟩), (95, ⟨.scalar, false, 1, [.int .u64 0], [.int .u64], false, 0⟩), (42, ⟨.struct [(0, 3), (1, 3), (2, 9)], true, 3, [.int .i64 0, .int .i64 0, .string ⟨#[]⟩], [.int .i64, .int .i64, .str], true, 0⟩), (5, ⟨.scalar, false, 1, [.int .u8 0], [.int .u8], false, 0⟩), (4, ⟨.scalar, false, 1, [.bool false], [.bool], false, 0⟩), (59, ⟨.struct [(0, 57)], true, 1, [.slice none 0 0], [.other], true, 0⟩), (71, ⟨.ptr, false, 1, [.pointer none], [.other], false, 0⟩), (29, ⟨.array 2 28 4, true, 8, [.slice none 0 0, .int .i64 0, .int .i64 0, .bool false, .slice none 0 0, .int .i64 0, .int .i64 0, .bool false], [.other, .int .i64, .int .i64, .bool, .other, .int .i64, .int .i64, .bool], true, 0⟩), (143, ⟨.scalar, false, 1, [.int .u32 0], [.int .u32], false, 0⟩), (116, ⟨.struct [(0, 9), (1, 3), (2, 34)], true, 3, [.string ⟨#[]⟩, .int .i64 0, .nilIface], [.str, .int .i64, .other], false, 0⟩), (114, ⟨.ptr, false, 1, [.pointer none], [.other], false, 0⟩), (136, ⟨.scalar, false, 1, [.int .i64 0], [.int .i64], false, 0⟩), (85, ⟨.scalar, false, 1, [.int .i64 0], [.int .i64], false, 0⟩), (104, ⟨.ptr, false, 1, [.pointer none], [.other], false, 0⟩), (22, ⟨.slice 42 3 32 false, false, 1, [.slice none 0 0], [.other], false, 0⟩)]
theorem tysROk : TysOk Try.prog tysR := TysOk.of (by kernel_rfl)
def od40 : Ords := []
theorem code40 : codeB Try.f40.ntmps od40 (match Try.f40.body with | some c => c | none => .skip) = true := by kernel_rfl
def od42 : Ords := [(6, [0, 1, 2, 3, 4, 5, 6, 7, 8, 9]), (11, [0, 1, 2, 3, 4, 5, 6, 7, 8, 9])]
theorem code42 : codeB Try.f42.ntmps od42 (match Try.f42.body with | some c => c | none => .skip) = true := by kernel_rfl
abbrev slZ (zs : List Int) : AV := slF eC zs
theorem ok41 {n : Nat} (hn : n < 50) (zs : List Int) (hl0 : zs.length = n) :
    CallOk Try.prog 41 [rV n] [rB zs] (fun v s => v = .tuple [] ∧ ∃ zs', s = [rB zs'] ∧ zs'.length = n ∧ zs'.Perm zs ∧ So 0 n zs') := by
  refine CallOk.of tysOk mixed od41 Try.func41 rfl rfl code41 ?_
  have kL : Go.Am.Pure Try.prog 62 [.d (qU (IntKind.u64.wrap (n : Int)))] (.d (nI (lenT n))) := by rw [wU (by omega)]; exact ok62 n (by omega)
  refine W.pure kL rfl rfl ?_
  have h64 : lenT n ≤ 64 := by
    unfold lenT
    split
    · omega
    · repeat (first | omega | split)
  refine W.callT [0] (ok61 hn n zs 0 n (lenT n) rfl hl0 (Nat.zero_le _) (Nat.le_refl _) h64 (fun h => by omega)) (by decide) rfl rfl rfl rfl ?_
  rintro v σ ⟨ys, rfl, kS, rfl, hso⟩
  exact W.ret (RetQ.all ⟨rfl, ys, rfl, by rw [kS.len]; exact hl0, kS.perm, hso⟩)
/-! ### of nothing -/
/-- Slices of nothing. -/
def Mt (x : AV) (s : Store) : Prop := (x = .d (.lit (.slice none 0 0)) ∧ s = []) ∨ (x = .row 0 0 0 0 ∧ s = [.row 1 0 []])
theorem ins0 {x : AV} {s : Store} (h : Mt x s) : CallOk Try.prog 72 [x, .d (nI 0), .d (nI 0)] s (fun v σ => v = .tuple [] ∧ σ = s) := by
  rcases h with ⟨rfl, rfl⟩ | ⟨rfl, rfl⟩
  · refine CallOk.of tysOk mixed od72 Try.func72 rfl rfl code72 ?_
    refine W.loop (fun k fr σ => fr = [(2, .d (nI 0)), (6, .d (nI 1))] ∧ σ = []) 0 (Start.of [2, 6] [] (by simp)) ⟨rfl, rfl⟩ ?_
    rintro k fr σ ⟨rfl, rfl⟩
    refine W.ite_f rfl ?_
    exact W.ret (W.ret (RetQ.all ⟨rfl, rfl⟩))
  · refine CallOk.of tysOk mixed od72 Try.func72 rfl rfl code72 ?_
    refine W.loop (fun k fr σ => fr = [(2, .d (nI 0)), (6, .d (nI 1))] ∧ σ = [.row 1 0 []]) 0 (Start.of [2, 6] [] (by simp)) ⟨rfl, rfl⟩ ?_
    rintro k fr σ ⟨rfl, rfl⟩
    refine W.ite_f rfl ?_
    exact W.ret (W.ret (RetQ.all ⟨rfl, rfl⟩))
theorem pdq0 {x : AV} {s : Store} (h : Mt x s) : CallOk Try.prog 61 [x, .d (nI 0), .d (nI 0), .d (nI 0)] s (fun v σ => v = .tuple [] ∧ σ = s) := by
  have ki := ins0 h
  rcases h with ⟨rfl, rfl⟩ | ⟨rfl, rfl⟩
  · refine CallOk.of tysOk mixed od61 Try.func61 rfl rfl code61 ?_
    refine W.loop (fun k fr σ => fr = [(0, .d (.lit (.slice none 0 0))), (1, .d (nI 0)), (2, .d (nI 0))] ∧ σ = []) 0 (Start.of [0, 1, 2] [] (by simp)) ⟨rfl, rfl⟩ ?_
    rintro k fr σ ⟨rfl, rfl⟩
    refine W.ite_t rfl ?_
    refine W.callT [] ki (by decide) rfl rfl rfl rfl ?_
    rintro v σ ⟨rfl, rfl⟩
    exact W.ret (W.ret (RetQ.all ⟨rfl, rfl⟩))
  · refine CallOk.of tysOk mixed od61 Try.func61 rfl rfl code61 ?_
    refine W.loop (fun k fr σ => fr = [(0, .row 0 0 0 0), (1, .d (nI 0)), (2, .d (nI 0))] ∧ σ = [.row 1 0 []]) 0 (Start.of [0, 1, 2] [] (by simp)) ⟨rfl, rfl⟩ ?_
    rintro k fr σ ⟨rfl, rfl⟩
    refine W.ite_t rfl ?_
    refine W.callT [0] ki (by decide) rfl rfl rfl rfl ?_
    rintro v σ ⟨rfl, rfl⟩
    exact W.ret (W.ret (RetQ.all ⟨rfl, rfl⟩))
theorem sort0 {x : AV} {s : Store} (h : Mt x s) : CallOk Try.prog 41 [x] s (fun v σ => v = .tuple [] ∧ σ = s) := by
  have ki := pdq0 h
  have kL : Go.Am.Pure Try.prog 62 [.d (qU (IntKind.u64.wrap 0))] (.d (nI (lenT 0))) := ok62 0 (by decide)
  rcases h with ⟨rfl, rfl⟩ | ⟨rfl, rfl⟩
  · refine CallOk.of tysOk mixed od41 Try.func41 rfl rfl code41 ?_
    refine W.pure kL rfl rfl ?_
    refine W.callT [] ki (by decide) rfl rfl rfl rfl ?_
    rintro v σ ⟨rfl, rfl⟩
    exact W.ret (RetQ.all ⟨rfl, rfl⟩)
  · refine CallOk.of tysOk mixed od41 Try.func41 rfl rfl code41 ?_
    refine W.pure kL rfl rfl ?_
    refine W.callT [0] ki (by decide) rfl rfl rfl rfl ?_
    rintro v σ ⟨rfl, rfl⟩
    exact W.ret (RetQ.all ⟨rfl, rfl⟩)
theorem ok40r (zs : List Int) (h0 : zs ≠ []) (hl : zs.length ≤ 1000000) : CallOk Try.prog 40 [slZ zs] [] (fun v s => v = rV zs.length ∧ s = [rB zs]) := by
  refine CallOk.of tysROk mixed od40 Try.func40 rfl rfl code40 ?_
  cases zs with
  | nil => exact absurd rfl h0
  | cons z r =>
    refine W.ite_f rfl ?_
    refine W.need (by intro h; cases h) ?_
    refine W.ite_f rfl ?_
    refine W.need ⟨rfl, rfl, rfl, Nat.zero_le _, by rw [fl_len]; simp, by simp only [List.length_cons] at *; omega, by simp only [List.length_cons] at *; omega, flat_one (fun x d hd => by obtain rfl := List.mem_singleton.1 hd; rfl) (z :: r)⟩ ?_
    refine W.ite_f (by rw [show (0 + (z :: r).length) * 1 = r.length + 1 by simp]; rfl) ?_
    refine W.ret (RetQ.all ⟨?_, ?_⟩)
    · show AV.row 0 1 0 (0 + (z :: r).length) = _
      rw [Nat.zero_add]
    · rfl
theorem clone0 : CallOk Try.prog 40 [slZ []] [] (fun v s => Mt v s) := by
  refine CallOk.of tysROk mixed od40 Try.func40 rfl rfl code40 ?_
  refine W.ite_t rfl ?_
  refine W.both ?_ ?_
  · refine W.ite_t rfl ?_
    exact W.ret (RetQ.all (.inl ⟨rfl, rfl⟩))
  · refine W.ite_f rfl ?_
    refine W.need ⟨rfl, rfl, rfl, Nat.zero_le _, rfl, by decide, by decide, by intro c hc; cases hc⟩ ?_
    refine W.ite_t rfl ?_
    exact W.ret (RetQ.all (.inr ⟨rfl, rfl⟩))
end Go.Proofs.Ytddhlmejaobcgaa.Pu
