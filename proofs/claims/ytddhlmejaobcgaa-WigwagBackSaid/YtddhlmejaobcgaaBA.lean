import Derived.Test.YtddhlmejaobcgaaPI
import Derived.Test.YtddhlmejaobcgaaAm26
set_option maxRecDepth 100000
set_option linter.unusedVariables false
set_option linter.unusedSimpArgs false
set_option linter.ambiguousOpen false
/- The ring in the heap; who lives, where one lies. -/
namespace Go.Proofs.Ytddhlmejaobcgaa.Bk
open Go Go.Am Co Pi
def tysH : Tys := [(3, ⟨.scalar, false, 1, [.int .i64 0], [.int .i64], false, 0⟩), (54, ⟨.slice 56 1 8 false, false, 1, [.slice none 0 0], [.other], false, 0⟩), (70, ⟨.slice 3 1 8 false, false, 1, [.slice none 0 0], [.other], false, 0⟩), (56, ⟨.scalar, false, 1, [.int .u64 0], [.int .u64], false, 0⟩), (26, ⟨.slice 9 1 16 false, false, 1, [.slice none 0 0], [.other], false, 0⟩), (77, ⟨.struct [(0, 56), (1, 3), (2, 70)], true, 3, [.int .u64 0, .int .i64 0, .slice none 0 0], [.int .u64, .int .i64, .other], true, 0⟩), (23, ⟨.slice 38 4 40 false, false, 1, [.slice none 0 0], [.other], false, 0⟩), (101, ⟨.map 3 104, false, 1, [.map none], [.other], false, 9⟩), (38, ⟨.struct [(0, 3), (1, 3), (2, 3), (3, 9)], true, 4, [.int .i64 0, .int .i64 0, .int .i64 0, .string ⟨#[]⟩], [.int .i64, .int .i64, .int .i64, .str], true, 0⟩), (9, ⟨.str, false, 1, [.string ⟨#[]⟩], [.str], false, 0⟩), (55, ⟨.scalar, false, 1, [.int .u64 0], [.int .u64], false, 0⟩), (97, ⟨.struct [(0, 9), (1, 3), (2, 34)], true, 3, [.string ⟨#[]⟩, .int .i64 0, .nilIface], [.str, .int .i64, .other], false, 0⟩), (34, ⟨.iface, false, 1, [.nilIface], [.other], false, 0⟩), (151, ⟨.scalar, false, 1, [.int .u64 0], [.int .u64], false, 0⟩), (28, ⟨.struct [(0, 26), (1, 3), (2, 3), (3, 4)], true, 4, [.slice none 0 0, .int .i64 0, .int .i64 0, .bool false], [.other, .int .i64, .int .i64, .bool], true, 0⟩), (103, ⟨.struct [(0, 101)], true, 1, [.map none], [.other], true, 9⟩), (30, ⟨.array 2 26 1, true, 2, [.slice none 0 0, .slice none 0 0], [.other, .other], true, 0⟩), (25, ⟨.struct [(0, 3), (1, 23)], true, 2, [.int .i64 0, .slice none 0 0], [.int .i64, .other], true, 0⟩), (106, ⟨.struct [(0, 4), (1, 77)], true, 4, [.bool false, .int .u64 0, .int .i64 0, .slice none 0 0], [.bool, .int .u64, .int .i64, .other], true, 9⟩), (57, ⟨.slice 5 1 1 true, false, 1, [.slice none 0 0], [.other], false, 0⟩), (95, ⟨.scalar, false, 1, [.int .u64 0], [.int .u64], false, 0⟩), (42, ⟨.struct [(0, 3), (1, 3), (2, 9)], true, 3, [.int .i64 0, .int .i64 0, .string ⟨#[]⟩], [.int .i64, .int .i64, .str], true, 0⟩), (5, ⟨.scalar, false, 1, [.int .u8 0], [.int .u8], false, 0⟩), (4, ⟨.scalar, false, 1, [.bool false], [.bool], false, 0⟩), (59, ⟨.struct [(0, 57)], true, 1, [.slice none 0 0], [.other], true, 0⟩), (71, ⟨.ptr, false, 1, [.pointer none], [.other], false, 0⟩), (29, ⟨.array 2 28 4, true, 8, [.slice none 0 0, .int .i64 0, .int .i64 0, .bool false, .slice none 0 0, .int .i64 0, .int .i64 0, .bool false], [.other, .int .i64, .int .i64, .bool, .other, .int .i64, .int .i64, .bool], true, 0⟩), (143, ⟨.scalar, false, 1, [.int .u32 0], [.int .u32], false, 0⟩), (116, ⟨.struct [(0, 9), (1, 3), (2, 34)], true, 3, [.string ⟨#[]⟩, .int .i64 0, .nilIface], [.str, .int .i64, .other], false, 0⟩), (114, ⟨.ptr, false, 1, [.pointer none], [.other], false, 0⟩), (136, ⟨.scalar, false, 1, [.int .i64 0], [.int .i64], false, 0⟩), (85, ⟨.scalar, false, 1, [.int .i64 0], [.int .i64], false, 0⟩), (104, ⟨.ptr, false, 1, [.pointer none], [.other], false, 0⟩), (22, ⟨.slice 42 3 32 false, false, 1, [.slice none 0 0], [.other], false, 0⟩)]
theorem tysHOk : TysOk Try.prog tysH := TysOk.of (by kernel_rfl)
def od48 : Ords := []
theorem code48 : codeB Try.f48.ntmps od48 (match Try.f48.body with | some c => c | none => .skip) = true := by kernel_rfl
def od49 : Ords := []
theorem code49 : codeB Try.f49.ntmps od49 (match Try.f49.body with | some c => c | none => .skip) = true := by kernel_rfl
/-- A member: does it live, its place, who is ahead, who comes behind. -/
structure Mb where
  lv : Bool
  id : Int
  pr : Int
  s1 : Int
  s2 : Int
  s3 : Int
def Mb.su (m : Mb) : List Int := [m.s1, m.s2, m.s3]
abbrev idD (n : Int) : D := .lit (.int .u64 n)
def mbD (m : Mb) : List D := [.lit (.bool m.lv), idD m.id, nI m.pr, .sl 3 (flat eC m.su)]
/-- An address, its block, its member. -/
abbrev Ent := Int × Nat × Mb
def esF : Nat → List Ent → List (Int × Nat × Nat)
  | _, [] => []
  | i, e :: r => (e.1, e.2.1, i) :: esF (i + 1) r
structure RingAt (H : HMap) (r b : Nat) (M : List Ent) : Prop where
  ring : H r = some (.cells [.lit (.map (some b))])
  map : H b = some (.imap (esF 0 M) M.length)
  mem : ∀ e ∈ M, H e.2.1 = some (.cells (mbD e.2.2))
  nd : (M.map (·.1)).Nodup
  bl : (r :: b :: M.map (·.2.1)).Nodup
def fndM (M : List Ent) (n : Int) : Option Ent := M.find? (·.1 == n)
theorem look_M (n : Int) : ∀ (M : List Ent) (i : Nat), Go.Am.look (esF i M) n = match fndM M n with
    | some e => D.lit (.pointer (some ⟨e.2.1, 0, none⟩))
    | none => D.lit (.pointer none)
  | [], i => rfl
  | e :: r, i => by
    unfold Go.Am.look fndM esF
    rw [List.find?_cons, List.find?_cons]
    cases h : e.1 == n with
    | true => rfl
    | false =>
      have := look_M n r (i + 1)
      unfold Go.Am.look fndM at this
      exact this
theorem fndM_mem {M : List Ent} {n : Int} {e : Ent} (h : fndM M n = some e) : e ∈ M ∧ e.1 = n := by
  unfold fndM at h
  exact ⟨List.mem_of_find?_eq_some h, by simpa using List.find?_some h⟩
def livesM (M : List Ent) (n : Int) : Bool := match fndM M n with
  | some e => e.2.2.lv
  | none => false
def idM (M : List Ent) (n : Int) : Int := match fndM M n with
  | some e => e.2.2.id
  | none => 0
/-- A pointer. -/
abbrev pD (a : Nat) : D := .lit (.pointer (some ⟨a, 0, none⟩))
theorem RingAt.look {H : HMap} {r b : Nat} {M : List Ent} (h : RingAt H r b M) (n : Int) (x : D) (hx : Go.Am.look (esF 0 M) n = x) : ∃ es c, H b = some (.imap es c) ∧ [x] = [Go.Am.look es n] := ⟨_, _, h.map, by rw [hx]⟩
theorem look_some {M : List Ent} {n : Int} {e : Ent} (h : fndM M n = some e) : Go.Am.look (esF 0 M) n = pD e.2.1 := by rw [look_M, h]
theorem look_none {M : List Ent} {n : Int} (h : fndM M n = none) : Go.Am.look (esF 0 M) n = .lit (.pointer none) := by rw [look_M, h]
/-- What a load of the ring's cell comes to. -/
theorem RingAt.rd {H : HMap} {r b : Nat} {M : List Ent} (h : RingAt H r b M) : ∃ cs, H r = some (.cells cs) ∧ 1 ≤ cs.length ∧ formedOk cs [.other] 0 ∧ [D.lit (.map (some b))] = formed cs [.other] 0 := ⟨_, h.ring, Nat.le_refl 1, ⟨trivial, trivial⟩, rfl⟩
theorem RingAt.live {H : HMap} {r b : Nat} {M : List Ent} (h : RingAt H r b M) {e : Ent} (he : e ∈ M) : ∃ cs, H e.2.1 = some (.cells cs) ∧ 1 ≤ cs.length ∧ formedOk cs [.bool] 0 ∧ [D.lit (.bool e.2.2.lv)] = formed cs [.bool] 0 := ⟨_, h.mem e he, by show 1 ≤ 4; decide, ⟨rfl, trivial⟩, rfl⟩
theorem RingAt.place {H : HMap} {r b : Nat} {M : List Ent} (h : RingAt H r b M) {e : Ent} (he : e ∈ M) : ∃ cs, H e.2.1 = some (.cells cs) ∧ 2 ≤ cs.length ∧ formedOk cs [.int .u64] 1 ∧ [idD e.2.2.id] = formed cs [.int .u64] 1 := ⟨_, h.mem e he, by show 2 ≤ 4; decide, ⟨rfl, trivial⟩, rfl⟩
theorem RingAt.pred {H : HMap} {r b : Nat} {M : List Ent} (h : RingAt H r b M) {e : Ent} (he : e ∈ M) : ∃ cs, H e.2.1 = some (.cells cs) ∧ 3 ≤ cs.length ∧ formedOk cs [.int .i64] 2 ∧ [nI e.2.2.pr] = formed cs [.int .i64] 2 := ⟨_, h.mem e he, by show 3 ≤ 4; decide, ⟨rfl, trivial⟩, rfl⟩
/-- A member's knowledge. -/
def prD (m : Mb) : List D := [idD m.id, nI m.pr, .sl 3 (flat eC m.su)]
theorem RingAt.peer {H : HMap} {r b : Nat} {M : List Ent} (h : RingAt H r b M) {e : Ent} (he : e ∈ M) : ∃ cs, H e.2.1 = some (.cells cs) ∧ 4 ≤ cs.length ∧ formedOk cs [.int .u64, .int .i64, .other] 1 ∧ prD e.2.2 = formed cs [.int .u64, .int .i64, .other] 1 := ⟨_, h.mem e he, Nat.le_refl 4, ⟨rfl, rfl, trivial, trivial⟩, rfl⟩
theorem ok48 (H : HMap) (ep r b : Nat) (M : List Ent) (hR : RingAt H r b M) (n : Int) : CallOk Try.prog 48 [.d (pD r), .d (nI n)] [.heap ep H] (fun v s => v = bI (livesM M n) ∧ s = [.heap ep H]) := by
  refine CallOk.of tysHOk mixed od48 Try.func48 rfl rfl code48 ?_
  unfold livesM
  refine W.exL _ hR.rd ?_
  cases hf : fndM M n with
  | none =>
    refine W.exL _ (hR.look n _ (look_none hf)) ?_
    repeat (first | refine W.ite_t rfl ?_ | refine W.ite_f rfl ?_)
    exact W.ret (RetQ.all ⟨rfl, rfl⟩)
  | some e =>
    refine W.exL _ (hR.look n _ (look_some hf)) ?_
    repeat (first | refine W.ite_t rfl ?_ | refine W.ite_f rfl ?_)
    refine W.exL _ hR.rd ?_
    repeat (first | refine W.ite_t rfl ?_ | refine W.ite_f rfl ?_)
    refine W.exL _ (hR.look n _ (look_some hf)) ?_
    repeat (first | refine W.ite_t rfl ?_ | refine W.ite_f rfl ?_)
    refine W.exL _ (hR.live (fndM_mem hf).1) ?_
    repeat (first | refine W.ite_t rfl ?_ | refine W.ite_f rfl ?_)
    exact W.ret (RetQ.all ⟨rfl, rfl⟩)
theorem ok49 (H : HMap) (ep r b : Nat) (M : List Ent) (hR : RingAt H r b M) (n : Int) : CallOk Try.prog 49 [.d (pD r), .d (nI n)] [.heap ep H] (fun v s => v = .d (idD (idM M n)) ∧ s = [.heap ep H]) := by
  refine CallOk.of tysHOk mixed od49 Try.func49 rfl rfl code49 ?_
  unfold idM
  refine W.exL _ hR.rd ?_
  cases hf : fndM M n with
  | none =>
    refine W.exL _ (hR.look n _ (look_none hf)) ?_
    repeat (first | refine W.ite_t rfl ?_ | refine W.ite_f rfl ?_)
    exact W.ret (RetQ.all ⟨rfl, rfl⟩)
  | some e =>
    refine W.exL _ (hR.look n _ (look_some hf)) ?_
    repeat (first | refine W.ite_t rfl ?_ | refine W.ite_f rfl ?_)
    refine W.exL _ hR.rd ?_
    refine W.exL _ (hR.look n _ (look_some hf)) ?_
    refine W.exL _ (hR.place (fndM_mem hf).1) ?_
    exact W.ret (RetQ.all ⟨rfl, rfl⟩)
end Go.Proofs.Ytddhlmejaobcgaa.Bk

set_option maxRecDepth 100000
set_option linter.unusedVariables false
set_option linter.unusedSimpArgs false
set_option linter.ambiguousOpen false
/- What a member knows, and how it learns. -/
namespace Go.Proofs.Ytddhlmejaobcgaa.Bk
open Go Go.Am Co Pi
def od23 : Ords := []
theorem code23 : codeB Try.f23.ntmps od23 (match Try.f23.body with | some c => c | none => .skip) = true := by kernel_rfl
def od51 : Ords := []
theorem code51 : codeB Try.f51.ntmps od51 (match Try.f51.body with | some c => c | none => .skip) = true := by kernel_rfl
def od65 : Ords := []
theorem code65 : codeB Try.f65.ntmps od65 (match Try.f65.body with | some c => c | none => .skip) = true := by kernel_rfl
def od50 : Ords := [(1, [0, 1, 2, 3, 4, 1005, 6])]
theorem code50 : codeB Try.f50.ntmps od50 (match Try.f50.body with | some c => c | none => .skip) = true := by kernel_rfl
def od66 : Ords := []
theorem code66 : codeB Try.f66.ntmps od66 (match Try.f66.body with | some c => c | none => .skip) = true := by kernel_rfl
def od67 : Ords := []
theorem code67 : codeB Try.f67.ntmps od67 (match Try.f67.body with | some c => c | none => .skip) = true := by kernel_rfl
def od68 : Ords := [(1, [0, 1, 2, 3, 4, 5, 6, 1007, 8, 9, 10, 11, 12, 14, 15, 16, 18, 19, 13, 17, 1020, 21])]
theorem code68 : codeB Try.f68.ntmps od68 (match Try.f68.body with | some c => c | none => .skip) = true := by kernel_rfl
def distI (a b : Int) : Int := IntKind.u64.wrap (b - a)
theorem ok23 (a b : Int) : Go.Am.Pure Try.prog 23 [.d (idD a), .d (idD b)] (.d (idD (distI a b))) := by
  refine CallOk.of tysHOk mixed od23 Try.func23 rfl rfl code23 ?_
  exact W.ret (RetQ.pure rfl rfl)
def withinB (x a b : Int) : Bool := if (a == b) = true then !(x == a) else if (!(x == a)) = true then decide (distI a x < distI a b) else false
theorem ok51 (x a b : Int) : Go.Am.Pure Try.prog 51 [.d (idD x), .d (idD a), .d (idD b)] (bI (withinB x a b)) := by
  refine CallOk.of tysHOk mixed od51 Try.func51 rfl rfl code51 ?_
  unfold withinB
  cases h1 : (a == b) with
  | true =>
    refine W.ite_t h1 ?_
    exact W.ret (RetQ.pure rfl rfl)
  | false =>
    refine W.ite_f h1 ?_
    cases h2 : (!(x == a)) with
    | true =>
      refine W.ite_t h2 ?_
      repeat (first | refine W.ite_t h2 ?_ | refine W.ite_t rfl ?_ | refine W.ite_f rfl ?_ | refine W.pure (ok23 _ _) rfl rfl ?_)
      exact W.ret (RetQ.pure rfl rfl)
    | false =>
      repeat (first | refine W.ite_f h2 ?_ | refine W.ite_t rfl ?_ | refine W.ite_f rfl ?_)
      refine W.ret (RetQ.pure rfl ?_)
      show mkRet [AV.d (.lit (.bool _))] = _
      rfl
/-! ### methods of the ring -/
theorem methLives (v : Value) (w : World) : (Go.method 276 71 v "Lives").run Try.prog w = .ok (48, v) w := by kernel_rfl
theorem methId (v : Value) (w : World) : (Go.method 276 71 v "Id").run Try.prog w = .ok (49, v) w := by kernel_rfl
theorem fuel : Try.prog.types.size + Made.depth = 276 := by kernel_rfl
theorem callLives (v : Value) (args : Array Value) (w : World) : (callMethod (.iface 71 v) "Lives" args).run Try.prog w = (callFunc 48 (#[v] ++ args)).run Try.prog w := by
  simp only [callMethod, program, Sem.run_bind, Sem.run, Result.andThen, fuel, methLives]
theorem callId (v : Value) (args : Array Value) (w : World) : (callMethod (.iface 71 v) "Id" args).run Try.prog w = (callFunc 49 (#[v] ++ args)).run Try.prog w := by
  simp only [callMethod, program, Sem.run_bind, Sem.run, Result.andThen, fuel, methId]
/-- The ring as an interface value; a method of it as a function. -/
abbrev kD (r : Nat) : D := .iface 71 (pD r)
abbrev fD (r : Nat) : D := .lit (.func (.method "Lives") #[.iface 71 (.pointer (some ⟨r, 0, none⟩))] #[])
def ixFrom (M : List Ent) : List Int → Nat → Int
  | [], _ => -1
  | a :: l, i => if livesM M a = true then (i : Int) else ixFrom M l (i + 1)
theorem ixFrom_at {M : List Ent} {l : List Int} {i : Nat} {a : Int} (h : l[i]? = some a) : ixFrom M (l.drop i) i = if livesM M a = true then (i : Int) else ixFrom M (l.drop (i + 1)) (i + 1) := by
  obtain ⟨hl, rfl⟩ := List.getElem?_eq_some_iff.1 h
  rw [List.drop_eq_getElem_cons hl]
  rfl
theorem sl_ix {l : List Int} {i : Nat} {a : Int} (h : l[i]? = some a) : Elem (flat eC l) [.int .i64] (i * 1) 1 [nI a] := Elem.all eC_len h _ rfl ⟨rfl, True.intro⟩ rfl
theorem ok65 (H : HMap) (ep r b : Nat) (M : List Ent) (hR : RingAt H r b M) (l : List Int) (hl : l.length ≤ 1000000) : CallOk Try.prog 65 [.d (.sl l.length (flat eC l)), .d (fD r)] [.heap ep H] (fun v s => v = .d (nI (ixFrom M l 0)) ∧ s = [.heap ep H]) := by
  refine CallOk.of tysHOk mixed od65 Try.func65 rfl rfl code65 ?_
  refine W.loop (fun k fr σ => ∃ i : Nat, fr = [(0, .d (.sl l.length (flat eC l))), (1, .d (fD r)), (7, .d (nI l.length)), (8, .d (nI i))] ∧ σ = [.heap ep H] ∧ i ≤ l.length ∧ ixFrom M (l.drop i) i = ixFrom M l 0 ∧ k = l.length - i) l.length
    (Start.of [0, 1, 7, 8] [] (by simp)) ⟨0, rfl, rfl, Nat.zero_le _, rfl, rfl⟩ ?_
  rintro k fr σ ⟨i, rfl, rfl, hi, hx, rfl⟩
  by_cases hlt : i < l.length
  · obtain ⟨a, ha⟩ : ∃ a, l[i]? = some a := ⟨_, List.getElem?_eq_getElem hlt⟩
    have gi : IntKind.i64.wrap ((i : Int) + 1) = ((i + 1 : Nat) : Int) := by rw [wrap64 (by omega) (by omega)]; rfl
    rw [ixFrom_at ha] at hx
    refine W.ite_t (decide_eq_true (by omega)) ?_
    refine W.need (ix_ok eC_len (by decide) hlt) ?_
    refine W.ld (sl_ix ha) ?_
    refine W.meth 48 (callLives _) ?_
    refine W.callH rfl (ok48 H ep r b M hR a) rfl rfl ?_
    cases hv : livesM M a with
    | true =>
      rw [if_pos hv] at hx
      refine W.ite_t rfl ?_
      refine W.ret ?_
      rw [← hx]
      exact W.ret (RetQ.all ⟨rfl, rfl⟩)
    | false =>
      rw [if_neg (by rw [hv]; simp)] at hx
      refine W.ite_f rfl ?_
      refine W.ret ⟨_, _, _, ?_, Trim.of [0, 1, 7, 8] [0] (by decide) (by simp) (by simp), i + 1, ?_, rfl, by omega, hx, rfl⟩
      · omega
      · rw [← gi]; rfl
  · obtain rfl : i = l.length := by omega
    rw [List.drop_length] at hx
    refine W.ite_f (decide_eq_false (by omega)) ?_
    refine W.ret ?_
    rw [← hx]
    exact W.ret (RetQ.all ⟨rfl, rfl⟩)
/-- The first one behind that lives. -/
def hdM (M : List Ent) (m : Mb) : Int := if livesM M m.s1 = true then m.s1 else if livesM M m.s2 = true then m.s2 else if livesM M m.s3 = true then m.s3 else -1
set_option maxHeartbeats 4000000 in
theorem ok50 (H : HMap) (ep r b : Nat) (M : List Ent) (hR : RingAt H r b M) (m : Mb) : CallOk Try.prog 50 [.d (.agg (prD m)), .d (kD r)] [.heap ep H] (fun v s => v = .d (nI (hdM M m)) ∧ s = [.heap ep H]) := by
  refine CallOk.of tysHOk mixed od50 Try.func50 rfl rfl code50 ?_
  have kI := ok65 H ep r b M hR m.su (by show 3 ≤ 1000000; decide)
  have e : ixFrom M m.su 0 = if livesM M m.s1 = true then 0 else if livesM M m.s2 = true then 1 else if livesM M m.s3 = true then 2 else -1 := rfl
  unfold hdM
  cases h1 : livesM M m.s1 with
  | true =>
    rw [h1, if_pos rfl] at e
    rw [e] at kI
    refine W.callH rfl kI rfl rfl ?_
    refine W.ite_f rfl ?_
    refine W.need (ix_ok eC_len (l := m.su) (i := 0) (by decide) (by show 0 < 3; decide)) ?_
    refine W.ld (sl_ix (l := m.su) (i := 0) rfl) ?_
    exact W.ret (RetQ.heap rfl rfl)
  | false =>
    rw [h1, if_neg (by simp)] at e
    cases h2 : livesM M m.s2 with
    | true =>
      rw [h2, if_pos rfl] at e
      rw [e] at kI
      refine W.callH rfl kI rfl rfl ?_
      refine W.ite_f rfl ?_
      refine W.need (ix_ok eC_len (l := m.su) (i := 1) (by decide) (by show 1 < 3; decide)) ?_
      refine W.ld (sl_ix (l := m.su) (i := 1) rfl) ?_
      exact W.ret (RetQ.heap rfl rfl)
    | false =>
      rw [h2, if_neg (by simp)] at e
      cases h3 : livesM M m.s3 with
      | true =>
        rw [h3, if_pos rfl] at e
        rw [e] at kI
        refine W.callH rfl kI rfl rfl ?_
        refine W.ite_f rfl ?_
        refine W.need (ix_ok eC_len (l := m.su) (i := 2) (by decide) (by show 2 < 3; decide)) ?_
        refine W.ld (sl_ix (l := m.su) (i := 2) rfl) ?_
        exact W.ret (RetQ.heap rfl rfl)
      | false =>
        rw [h3, if_neg (by simp)] at e
        rw [e] at kI
        refine W.callH rfl kI rfl rfl ?_
        refine W.ite_t rfl ?_
        exact W.ret (RetQ.heap rfl rfl)
theorem eC_one (l : List Int) : ∀ c ∈ flat eC l, c.one = true := flat_one (fun x d hd => by obtain rfl := List.mem_singleton.1 hd; rfl) l
theorem ok66 (a : Int) (m : Mb) : Go.Am.Pure Try.prog 66 [.d (nI a), .d (.agg (prD m))] (.d (.sl 3 [nI a, nI m.s1, nI m.s2])) := by
  refine CallOk.of tysHOk mixed od66 Try.func66 rfl rfl code66 ?_
  refine W.alt_r ?_
  refine W.need ⟨rfl, rfl, rfl, by decide, by decide, eC_one m.su⟩ ?_
  refine W.need (by decide) ?_
  exact W.ret (RetQ.pure rfl rfl)
def nearB (M : List Ent) (q f t : Int) : Bool := if (!(q == -1)) = true then if livesM M q = true then withinB (idM M q) f (idM M t) else false else false
theorem ok67 (H : HMap) (ep r b : Nat) (M : List Ent) (hR : RingAt H r b M) (q f t : Int) : CallOk Try.prog 67 [.d (nI q), .d (idD f), .d (nI t), .d (kD r)] [.heap ep H] (fun v s => v = bI (nearB M q f t) ∧ s = [.heap ep H]) := by
  refine CallOk.of tysHOk mixed od67 Try.func67 rfl rfl code67 ?_
  unfold nearB
  cases h1 : (!(q == -1)) with
  | false =>
    repeat (first | refine W.ite_f h1 ?_ | refine W.ite_t rfl ?_ | refine W.ite_f rfl ?_)
    exact W.ret (RetQ.all ⟨rfl, rfl⟩)
  | true =>
    repeat (first | refine W.ite_t h1 ?_ | refine W.ite_t rfl ?_ | refine W.ite_f rfl ?_)
    refine W.meth 48 (callLives _) ?_
    refine W.callH rfl (ok48 H ep r b M hR q) rfl rfl ?_
    repeat (first | refine W.ite_t h1 ?_ | refine W.ite_t rfl ?_ | refine W.ite_f rfl ?_)
    cases h2 : livesM M q with
    | false =>
      repeat (first | refine W.ite_f h1 ?_ | refine W.ite_t rfl ?_ | refine W.ite_f rfl ?_)
      exact W.ret (RetQ.all ⟨rfl, rfl⟩)
    | true =>
      repeat (first | refine W.ite_t rfl ?_ | refine W.ite_f rfl ?_)
      refine W.meth 49 (callId _) ?_
      refine W.callH rfl (ok49 H ep r b M hR q) rfl rfl ?_
      repeat (first | refine W.ite_t rfl ?_ | refine W.ite_f rfl ?_)
      refine W.meth 49 (callId _) ?_
      refine W.callH rfl (ok49 H ep r b M hR t) rfl rfl ?_
      repeat (first | refine W.ite_t rfl ?_ | refine W.ite_f rfl ?_)
      refine W.pure (ok51 _ _ _) rfl rfl ?_
      repeat (first | refine W.ite_t rfl ?_ | refine W.ite_f rfl ?_)
      exact W.ret (RetQ.all ⟨rfl, rfl⟩)
/-- Does another one go ahead of a member? -/
def recB (M : List Ent) (m : Mb) (n : Int) : Bool := if (m.pr == -1) = true then true else if (!(livesM M m.pr)) = true then true else withinB (idM M n) (idM M m.pr) m.id
def recM (M : List Ent) (m : Mb) (n : Int) : Mb := if recB M m n = true then { m with pr := n } else m
set_option maxHeartbeats 4000000 in
theorem ok68 (H : HMap) (ep r b : Nat) (M : List Ent) (hR : RingAt H r b M) (m : Mb) (n : Int) : CallOk Try.prog 68 [.d (.agg (prD m)), .d (nI n), .d (kD r)] [.heap ep H] (fun v s => v = .d (.agg (prD (recM M m n))) ∧ s = [.heap ep H]) := by
  refine CallOk.of tysHOk mixed od68 Try.func68 rfl rfl code68 ?_
  unfold recM recB
  cases h1 : (m.pr == -1) with
  | true =>
    repeat (first | refine W.ite_t h1 ?_ | refine W.ite_t rfl ?_ | refine W.ite_f rfl ?_)
    exact W.ret (RetQ.heap rfl rfl)
  | false =>
    repeat (first | refine W.ite_f h1 ?_ | refine W.ite_t rfl ?_ | refine W.ite_f rfl ?_)
    refine W.meth 48 (callLives _) ?_
    refine W.callH rfl (ok48 H ep r b M hR m.pr) rfl rfl ?_
    cases h2 : livesM M m.pr with
    | false =>
      repeat (first | refine W.ite_f h1 ?_ | refine W.ite_t rfl ?_ | refine W.ite_f rfl ?_)
      exact W.ret (RetQ.heap rfl rfl)
    | true =>
      repeat (first | refine W.ite_f h1 ?_ | refine W.ite_t rfl ?_ | refine W.ite_f rfl ?_)
      refine W.meth 49 (callId _) ?_
      refine W.callH rfl (ok49 H ep r b M hR n) rfl rfl ?_
      repeat (first | refine W.ite_f h1 ?_ | refine W.ite_t rfl ?_ | refine W.ite_f rfl ?_)
      refine W.meth 49 (callId _) ?_
      refine W.callH rfl (ok49 H ep r b M hR m.pr) rfl rfl ?_
      repeat (first | refine W.ite_f h1 ?_ | refine W.ite_t rfl ?_ | refine W.ite_f rfl ?_)
      refine W.pure (ok51 _ _ _) rfl rfl ?_
      cases h3 : withinB (idM M n) (idM M m.pr) m.id with
      | true =>
        repeat (first | refine W.ite_f h1 ?_ | refine W.ite_t rfl ?_ | refine W.ite_f rfl ?_)
        exact W.ret (RetQ.heap rfl rfl)
      | false =>
        repeat (first | refine W.ite_f h1 ?_ | refine W.ite_t rfl ?_ | refine W.ite_f rfl ?_)
        exact W.ret (RetQ.heap rfl rfl)
end Go.Proofs.Ytddhlmejaobcgaa.Bk

set_option maxRecDepth 100000
set_option linter.unusedVariables false
set_option linter.unusedSimpArgs false
set_option linter.ambiguousOpen false
/- The members that live, by rising addresses. -/
namespace Go.Proofs.Ytddhlmejaobcgaa.Bk
open Go Go.Am Co Pi
def od31 : Ords := []
theorem code31 : codeB Try.f31.ntmps od31 (match Try.f31.body with | some c => c | none => .skip) = true := by kernel_rfl
/-- More lies in the heap. -/
def Ext (H H' : HMap) : Prop := ∀ a o, H a = some o → H' a = some o
theorem Ext.refl (H : HMap) : Ext H H := fun _ _ h => h
theorem Ext.trans {H H' H'' : HMap} (h : Ext H H') (k : Ext H' H'') : Ext H H'' := fun a o e => k a o (h a o e)
theorem Ext.new {H : HMap} {a : Nat} (h : H a = none) (o : HObj) : Ext H (H.upd a o) := fun x o' e => by
  rw [HMap.upd_ne]
  · exact e
  · rintro rfl; rw [h] at e; cases e
theorem RingAt.ext {H H' : HMap} {r b : Nat} {M : List Ent} (h : RingAt H r b M) (k : Ext H H') : RingAt H' r b M := ⟨k _ _ h.ring, k _ _ h.map, fun e he => k _ _ (h.mem e he), h.nd, h.bl⟩
/-- The list of those that live. -/
structure LiveOf (M : List Ent) (l : List Int) : Prop where
  rise : l.Pairwise (· < ·)
  all : ∀ n, n ∈ l ↔ livesM M n = true
theorem esF_mem {e : Int × Nat × Nat} : ∀ {M : List Ent} {i : Nat}, e ∈ esF i M → i ≤ e.2.2 ∧ ∃ m ∈ M, m.1 = e.1 ∧ m.2.1 = e.2.1
  | [], i, h => by cases h
  | m :: M, i, h => by
    rcases List.mem_cons.1 h with rfl | h
    · exact ⟨Nat.le_refl _, m, by simp, rfl, rfl⟩
    · obtain ⟨h1, m', h2, h3⟩ := esF_mem h
      exact ⟨by omega, m', List.mem_cons_of_mem _ h2, h3⟩
theorem mem_esF {m : Ent} : ∀ {M : List Ent} {i : Nat}, m ∈ M → ∃ e ∈ esF i M, m.1 = e.1 ∧ m.2.1 = e.2.1
  | m' :: M, i, h => by
    rcases List.mem_cons.1 h with rfl | h
    · exact ⟨_, List.mem_cons_self, rfl, rfl⟩
    · obtain ⟨e, h1, h2⟩ := mem_esF (i := i + 1) h
      exact ⟨e, List.mem_cons_of_mem _ h1, h2⟩
theorem esF_keys : ∀ (M : List Ent) (i : Nat), (esF i M).map (·.1) = M.map (·.1)
  | [], _ => rfl
  | m :: M, i => by simp [esF, esF_keys M (i + 1)]
theorem esF_len : ∀ (M : List Ent) (i : Nat), (esF i M).length = M.length
  | [], _ => rfl
  | m :: M, i => by simp [esF, esF_len M (i + 1)]
theorem esF_inj : ∀ {M : List Ent} {i : Nat} {e e' : Int × Nat × Nat}, e ∈ esF i M → e' ∈ esF i M → e.2.2 = e'.2.2 → e = e'
  | m :: M, i, e, e', h, h', hb => by
    rcases List.mem_cons.1 h with rfl | h <;> rcases List.mem_cons.1 h' with rfl | h'
    · rfl
    · have := (esF_mem h').1; simp at hb; omega
    · have := (esF_mem h).1; simp at hb; omega
    · exact esF_inj h h' hb
theorem fndM_of {M : List Ent} (hn : (M.map (·.1)).Nodup) {m : Ent} (hm : m ∈ M) : fndM M m.1 = some m := by
  unfold fndM
  induction M with
  | nil => cases hm
  | cons x M ih =>
    rw [List.find?_cons]
    have hn' := List.nodup_cons.1 hn
    rcases List.mem_cons.1 hm with rfl | h
    · simp
    · have : (x.1 == m.1) = false := beq_eq_false_iff_ne.2 fun e => hn'.1 (List.mem_map.2 ⟨m, h, e.symm⟩)
      rw [this]
      exact ih hn'.2 h
theorem lives_of {M : List Ent} (hn : (M.map (·.1)).Nodup) {m : Ent} (hm : m ∈ M) : livesM M m.1 = m.2.2.lv := by
  unfold livesM; rw [fndM_of hn hm]
theorem lives_ex {M : List Ent} {n : Int} (h : livesM M n = true) : ∃ m ∈ M, m.1 = n ∧ m.2.2.lv = true := by
  unfold livesM at h
  cases hf : fndM M n with
  | none => rw [hf] at h; cases h
  | some e =>
    rw [hf] at h
    exact ⟨e, (fndM_mem hf).1, (fndM_mem hf).2, h⟩
/-- Those among some entries that live. -/
def outM (M : List Ent) (vis : List (Int × Nat × Nat)) : List Int := (vis.map (·.1)).filter (livesM M)
theorem rise_of {l : List Int} (h : So 0 l.length l) (hn : l.Nodup) : l.Pairwise (· < ·) := by
  rw [List.pairwise_iff_getElem]
  intro i j hi hj hij
  have h1 := h i j (Nat.zero_le _) (by omega) hj
  have e1 : g l i = l[i] := by unfold g; simp [List.getD_eq_getElem?_getD, List.getElem?_eq_getElem hi]
  have e2 : g l j = l[j] := by unfold g; simp [List.getD_eq_getElem?_getD, List.getElem?_eq_getElem hj]
  rw [e1, e2] at h1
  have : l[i] ≠ l[j] := fun e => by
    have := (List.getElem_inj hn).1 e
    omega
  omega
theorem kp2 : ∀ i, i < 1 → ([0, 1] : List Nat)[i]? = some i := by
  intro i hi
  have : i = 0 := by omega
  subst this
  rfl
theorem sub_len {α : Type} [DecidableEq α] : ∀ {l es : List α}, l.Nodup → (∀ x ∈ l, x ∈ es) → l.length ≤ es.length
  | [], _, _, _ => Nat.zero_le _
  | a :: l, es, hn, hs => by
    have ha := hs a List.mem_cons_self
    have hn' := List.nodup_cons.1 hn
    have := sub_len (l := l) (es := es.erase a) hn'.2 fun x hx => (List.mem_erase_of_ne (fun e => hn'.1 (by rw [← e]; exact hx))).2 (hs x (List.mem_cons_of_mem _ hx))
    rw [List.length_erase_of_mem ha] at this
    have hp : 0 < es.length := List.length_pos_of_mem ha
    simp only [List.length_cons]
    omega
theorem map_inj {α β : Type} {f : α → β} : ∀ {l : List α}, (l.map f).Nodup → ∀ {x y : α}, x ∈ l → y ∈ l → f x = f y → x = y
  | a :: l, hn, x, y, hx, hy, e => by
    have hn' : f a ∉ l.map f ∧ (l.map f).Nodup := List.nodup_cons.1 hn
    rcases List.mem_cons.1 hx with hx1 | hx2 <;> rcases List.mem_cons.1 hy with hy1 | hy2
    · rw [hx1, hy1]
    · exact absurd (List.mem_map.2 ⟨y, hy2, by rw [← e, hx1]⟩) hn'.1
    · exact absurd (List.mem_map.2 ⟨x, hx2, by rw [e, hy1]⟩) hn'.1
    · exact map_inj hn'.2 hx2 hy2 e
theorem flat_snoc (l : List Int) (x : Int) : flat eC (l ++ [x]) = flat eC l ++ [nI x] := by
  induction l with
  | nil => rfl
  | cons y l ih => show nI y :: flat eC (l ++ [x]) = _; rw [ih]; rfl
theorem outM_nodup {M : List Ent} (hn : (M.map (·.1)).Nodup) {vis : List (Int × Nat × Nat)} (hv : vis.Nodup) (hs : ∀ e ∈ vis, e ∈ esF 0 M) : (outM M vis).Nodup := by
  unfold outM
  refine List.Pairwise.filter _ ?_
  have hk : ((esF 0 M).map (·.1)).Nodup := by rw [esF_keys]; exact hn
  rw [List.pairwise_map]
  refine List.Pairwise.imp_of_mem (fun {a b} ha hb h e => h ?_) hv
  exact map_inj hk (hs a ha) (hs b hb) e
theorem outM_len (M : List Ent) {vis : List (Int × Nat × Nat)} (hv : vis.Nodup) (hs : ∀ e ∈ vis, e ∈ esF 0 M) : (outM M vis).length ≤ M.length := by
  have h1 : (outM M vis).length ≤ vis.length := by
    unfold outM
    have := List.length_filter_le (livesM M) (vis.map (·.1))
    rwa [List.length_map] at this
  have := sub_len hv hs
  rw [esF_len] at this
  omega
theorem sortE {n : Nat} (hn : n < 50) (zs : List Int) (hl : zs.length = n) (e : Nat) : CallOk Try.prog 55 [.row 0 e 0 n] [.row 1 e (flat eC zs)] (fun v s => v = .tuple [] ∧ ∃ cs', s = [.row 1 e cs'] ∧ ∃ zs', cs' = flat eC zs' ∧ zs'.length = n ∧ zs'.Perm zs ∧ So 0 n zs') :=
  CallOk.epoch ((ok55 hn zs hl).mono fun v s ⟨h1, zs', h2, h3⟩ => ⟨h1, _, h2, zs', rfl, h3⟩) e
set_option maxHeartbeats 8000000 in
theorem ok31 (H : HMap) (ep r b : Nat) (M : List Ent) (hR : RingAt H r b M) (hM : M.length < 50) : CallOk Try.prog 31 [.d (pD r)] [.heap ep H]
    (fun v s => ∃ l ep' H', LiveOf M l ∧ l.length ≤ M.length ∧ v = .d (.sl l.length (flat eC l)) ∧ s = [.heap ep' H'] ∧ Ext H H') := by
  refine CallOk.freeze ?_
  refine CallOk.of tysHOk mixed od31 Try.func31 rfl rfl code31 ?_
  refine W.exL _ hR.rd ?_
  refine W.fa fun it hit => ?_
  refine W.exH (H.upd it (.miter b (esF 0 M) [] M.length)) ⟨_, _, hR.map, rfl⟩ ?_
  have hne : it ≠ b := by rintro rfl; rw [hR.map] at hit; cases hit
  refine W.loop (fun k fr σ => ∃ (vis : List (Int × Nat × Nat)) (ep' : Nat), fr = [(3, .row 1 (outM M vis).length 0 (outM M vis).length), (10, .d (pD it))] ∧
      σ = [.heap ep' (H.upd it (.miter b (esF 0 M) (vis.map (·.2.2)) M.length)), .row 1 (outM M vis).length (flat eC (outM M vis))] ∧ vis.Nodup ∧ (∀ e ∈ vis, e ∈ esF 0 M) ∧ k = M.length - vis.length) M.length
    (Start.rowN [10] 3 1 rfl) ⟨[], ep, rfl, rfl, List.nodup_nil, (fun e h => by cases h), rfl⟩ ?_
  rintro k fr σ ⟨vis, ep', rfl, rfl, hvn, hvs, rfl⟩
  have hA : (H.upd it (.miter b (esF 0 M) (vis.map (·.2.2)) M.length)) it = some (.miter b (esF 0 M) (vis.map (·.2.2)) M.length) := HMap.upd_self _ _ _
  have hB : (H.upd it (.miter b (esF 0 M) (vis.map (·.2.2)) M.length)) b = some (.imap (esF 0 M) M.length) := by rw [HMap.upd_ne _ _ (Ne.symm hne)]; exact hR.map
  by_cases hall : ∀ e ∈ esF 0 M, e.2.2 ∈ vis.map (·.2.2)
  · refine W.alt_l ?_
    refine W.need ⟨b, _, _, _, hA, hB, hall⟩ ?_
    refine W.ite_f rfl ?_
    refine W.ret ?_
    have hlen := outM_len M hvn hvs
    have hnd := outM_nodup hR.nd hvn hvs
    refine W.callT [1] (sortE (n := (outM M vis).length) (by omega) (outM M vis) rfl (outM M vis).length) (by decide) rfl rfl rfl rfl ?_
    rintro v s ⟨rfl, cs', rfl, zs', rfl, hzl, hperm, hso⟩
    have hzn : zs'.Nodup := hperm.nodup_iff.2 hnd
    have hR' := hR.ext (Ext.new hit (.miter b (esF 0 M) (vis.map (·.2.2)) M.length))
    refine W.ret (RetQ.all (.inr ⟨[0], 1, _, 0, (outM M vis).length, 1, flat eC zs', rfl, rfl, ?_, by simp, by simp [mergeS, mergeGo], fun i hi => ?_, by simp, by simp, zs', ep', _, ⟨rise_of (by rw [hzl]; exact hso) hzn, fun n => ?_⟩, by rw [hzl]; exact hlen, ?_, rfl, Ext.new hit _⟩))
    · rw [fl_len, hzl]; omega
    · obtain rfl : i = 0 := Nat.lt_one_iff.1 hi
      rfl
    · rw [hperm.mem_iff]
      unfold outM
      rw [List.mem_filter]
      refine ⟨fun h => h.2, fun h => ⟨?_, h⟩⟩
      obtain ⟨m, hm, hm1, _⟩ := lives_ex h
      obtain ⟨e, he, he1, _⟩ := mem_esF (i := 0) hm
      obtain ⟨e', he', hb'⟩ := List.mem_map.1 (hall e he)
      have := esF_inj (hvs e' he') he hb'
      subst this
      exact List.mem_map.2 ⟨e', he', by rw [← he1, hm1]⟩
    · rw [hzl, List.drop_zero, Nat.mul_one, List.take_of_length_le (by rw [fl_len, hzl]; exact Nat.le_refl _)]
  · refine W.alt_r ?_
    have hex : ∃ e ∈ esF 0 M, e.2.2 ∉ vis.map (·.2.2) := by
      apply Classical.byContradiction
      intro h
      apply hall
      intro e he
      apply Classical.byContradiction
      intro h'
      exact h ⟨e, he, h'⟩
    refine W.need ⟨b, _, _, _, hA, hB, hex⟩ ?_
    refine W.fa ?_
    rintro j ⟨b', es', seen', c', hA', hB', hj, e, he, rfl⟩
    rw [hA] at hA'
    injection hA' with hA'
    injection hA' with z1 z2 z3 z4
    subst z1 z2 z3 z4
    refine W.exH (H.upd it (.miter b (esF 0 M) (vis.map (·.2.2) ++ [e.2.2]) M.length)) ⟨b, _, _, _, hA, hB, (HMap.upd_upd _ _ _ _).symm⟩ ?_
    refine W.ite_t rfl ?_
    have hA2 : (H.upd it (.miter b (esF 0 M) (vis.map (·.2.2) ++ [e.2.2]) M.length)) it = some (.miter b (esF 0 M) (vis.map (·.2.2) ++ [e.2.2]) M.length) := HMap.upd_self _ _ _
    have hB2 : (H.upd it (.miter b (esF 0 M) (vis.map (·.2.2) ++ [e.2.2]) M.length)) b = some (.imap (esF 0 M) M.length) := by rw [HMap.upd_ne _ _ (Ne.symm hne)]; exact hR.map
    refine W.exL [nI e.1, pD e.2.1] ⟨b, _, _, _, e, hA2, hB2, he, rfl⟩ ?_
    have hR' := hR.ext (Ext.new hit (.miter b (esF 0 M) (vis.map (·.2.2) ++ [e.2.2]) M.length))
    obtain ⟨_, m, hm, hm1, hm2⟩ := esF_mem he
    have hlv : livesM M e.1 = m.2.2.lv := by rw [← hm1]; exact lives_of hR.nd hm
    have hnv : e ∉ vis := fun h => hj (List.mem_map.2 ⟨e, h, rfl⟩)
    have hvn' : (vis ++ [e]).Nodup := by
      rw [List.nodup_append]
      exact ⟨hvn, by simp, fun x hx y hy h => hnv (by obtain rfl := List.mem_singleton.1 hy; rw [← h]; exact hx)⟩
    have hvs' : ∀ x ∈ vis ++ [e], x ∈ esF 0 M := fun x hx => (List.mem_append.1 hx).elim (hvs x) fun h => by obtain rfl := List.mem_singleton.1 h; exact he
    have hl' := sub_len hvn' hvs'
    rw [esF_len, List.length_append] at hl'
    have hl2 := outM_len M hvn hvs
    simp only [List.length_cons, List.length_nil] at hl'
    refine W.exL [D.lit (.bool m.2.2.lv)] (hm2 ▸ hR'.live hm) ?_
    have hbor : (vis ++ [e]).map (fun x : Int × Nat × Nat => x.2.2) = vis.map (fun x => x.2.2) ++ [e.2.2] := by simp
    cases hv : m.2.2.lv with
    | true =>
      have hout : outM M (vis ++ [e]) = outM M vis ++ [e.1] := by
        unfold outM
        rw [List.map_append, List.filter_append]
        simp [hlv, hv]
      refine W.ite_t rfl ?_
      refine W.alt_l ?_
      refine W.need ⟨rfl, rfl, rfl, ?_, rfl, ?_, ?_, ?_⟩ ?_
      · rw [fl_len, Nat.mul_one]; exact Nat.le_refl _
      · omega
      · omega
      · intro c hc; obtain rfl := List.mem_singleton.1 hc; rfl
      refine W.ite_f ?_ ?_
      · rw [fl_len]
        cases hb : Nat.ble (((outM M vis).length + 1) * 1) (outM M vis).length with
        | false => rfl
        | true => have := Nat.le_of_ble_eq_true hb; omega
      refine W.ret ⟨_, _, _, ?_, Trim.of [3, 10] [0, 1] (by decide) (by simp) kp2, vis ++ [e], ep' + 1, ?_, ?_, hvn', hvs', rfl⟩
      · rw [List.length_append]; simp only [List.length_cons, List.length_nil]; omega
      · rw [hout, List.length_append]; rfl
      · rw [hout, flat_snoc, hbor, List.length_append]
        show [Blk.heap _ _, Blk.row 1 _ (List.take ((outM M vis).length * 1) (flat eC (outM M vis)) ++ _)] = _
        rw [Nat.mul_one, List.take_of_length_le (by rw [fl_len]; exact Nat.le_refl _)]
        rfl
    | false =>
      have hout : outM M (vis ++ [e]) = outM M vis := by
        unfold outM
        rw [List.map_append, List.filter_append]
        simp [hlv, hv]
      refine W.ite_f rfl ?_
      refine W.ret ⟨_, _, _, ?_, Trim.of [3, 10] [0, 1] (by decide) (by simp) kp2, vis ++ [e], ep' + 1, ?_, ?_, hvn', hvs', rfl⟩
      · rw [List.length_append]; simp only [List.length_cons, List.length_nil]; omega
      · rw [hout]; rfl
      · rw [hout, hbor]; rfl
end Go.Proofs.Ytddhlmejaobcgaa.Bk

set_option maxRecDepth 100000
set_option linter.unusedVariables false
set_option linter.unusedSimpArgs false
set_option linter.ambiguousOpen false
/- A member looks who is behind it. -/
namespace Go.Proofs.Ytddhlmejaobcgaa.Bk
open Go Go.Am Co Pi
def od53 : Ords := [(10, [0, 1, 2, 3, 4, 5, 6, 7, 8, 9, 10, 11, 12, 13, 14, 15, 16, 17, 18, 19, 20, 1021])]
theorem code53 : codeB Try.f53.ntmps od53 (match Try.f53.body with | some c => c | none => .skip) = true := by kernel_rfl
def mb0 : Mb := ⟨false, 0, 0, 0, 0, 0⟩
def getM (M : List Ent) (n : Int) : Mb := match fndM M n with
  | some e => e.2.2
  | none => mb0
def setM (M : List Ent) (n : Int) (m : Mb) : List Ent := M.map fun e => if e.1 = n then (e.1, e.2.1, m) else e
theorem getM_of {M : List Ent} {n : Int} {e : Ent} (h : fndM M n = some e) : getM M n = e.2.2 := by unfold getM; rw [h]
theorem setM_keys (M : List Ent) (n : Int) (m : Mb) : (setM M n m).map (·.1) = M.map (·.1) := by
  unfold setM
  rw [List.map_map]
  refine List.map_congr_left fun e _ => ?_
  show (if e.1 = n then (e.1, e.2.1, m) else e).1 = e.1
  split <;> rfl
theorem setM_blks (M : List Ent) (n : Int) (m : Mb) : (setM M n m).map (·.2.1) = M.map (·.2.1) := by
  unfold setM
  rw [List.map_map]
  refine List.map_congr_left fun e _ => ?_
  show (if e.1 = n then (e.1, e.2.1, m) else e).2.1 = e.2.1
  split <;> rfl
theorem setM_len (M : List Ent) (n : Int) (m : Mb) : (setM M n m).length = M.length := by unfold setM; rw [List.length_map]
theorem setM_esF (n : Int) (m : Mb) : ∀ (M : List Ent) (i : Nat), esF i (setM M n m) = esF i M
  | [], _ => rfl
  | e :: M, i => by
    show ((if e.1 = n then (e.1, e.2.1, m) else e).1, (if e.1 = n then (e.1, e.2.1, m) else e).2.1, i) :: esF (i + 1) (setM M n m) = _
    rw [setM_esF n m M (i + 1)]
    split <;> rfl
theorem fndM_set (n k : Int) (m : Mb) : ∀ (M : List Ent), fndM (setM M n m) k = (fndM M k).map fun e => if e.1 = n then (e.1, e.2.1, m) else e
  | [] => rfl
  | e :: M => by
    unfold fndM setM
    rw [List.map_cons, List.find?_cons, List.find?_cons]
    have h1 : ((if e.1 = n then (e.1, e.2.1, m) else e).1 == k) = (e.1 == k) := by split <;> rfl
    rw [h1]
    cases e.1 == k with
    | true => rfl
    | false => exact fndM_set n k m M
theorem fndM_set_self {M : List Ent} {n : Int} {e : Ent} (h : fndM M n = some e) (m : Mb) : fndM (setM M n m) n = some (n, e.2.1, m) := by
  have he := (fndM_mem h).2
  rw [fndM_set, h, Option.map_some, if_pos he, he]
theorem getM_set {M : List Ent} {n : Int} {e : Ent} (h : fndM M n = some e) (m : Mb) (k : Int) : getM (setM M n m) k = if k = n then m else getM M k := by
  unfold getM
  by_cases hk : k = n
  · subst hk
    rw [fndM_set_self h, if_pos rfl]
  · rw [if_neg hk, fndM_set]
    cases hf : fndM M k with
    | none => rfl
    | some e' =>
      have := (fndM_mem hf).2
      show (if e'.1 = n then (e'.1, e'.2.1, m) else e').2.2 = _
      rw [if_neg (by rw [this]; exact hk)]
theorem lives_get (M : List Ent) (n : Int) : livesM M n = (getM M n).lv := by
  unfold livesM getM
  cases fndM M n <;> rfl
theorem id_get (M : List Ent) (n : Int) : idM M n = (getM M n).id := by
  unfold idM getM
  cases fndM M n <;> rfl
theorem lives_some {M : List Ent} {n : Int} (h : livesM M n = true) : ∃ e, fndM M n = some e ∧ e.2.2.lv = true := by
  unfold livesM at h
  cases hf : fndM M n with
  | none => rw [hf] at h; cases h
  | some e => rw [hf] at h; exact ⟨e, rfl, h⟩
/-- Other things stay. -/
def Frm (H H' : HMap) (M : List Ent) : Prop := ∀ a, a ∉ M.map (·.2.1) → H' a = H a
theorem RingAt.set {H : HMap} {r b : Nat} {M : List Ent} (h : RingAt H r b M) {n : Int} {e : Ent} (he : fndM M n = some e) (m : Mb) :
    RingAt (H.upd e.2.1 (.cells (mbD m))) r b (setM M n m) ∧ Frm H (H.upd e.2.1 (.cells (mbD m))) M := by
  obtain ⟨hm, hn⟩ := fndM_mem he
  have hb1 : e.2.1 ∈ M.map (·.2.1) := List.mem_map.2 ⟨e, hm, rfl⟩
  have hbl := List.nodup_cons.1 h.bl
  have hbl2 := List.nodup_cons.1 hbl.2
  have n1 : r ≠ e.2.1 := fun k => hbl.1 (by rw [k]; exact List.mem_cons_of_mem _ hb1)
  have n2 : b ≠ e.2.1 := fun k => hbl2.1 (by rw [k]; exact hb1)
  refine ⟨⟨by rw [HMap.upd_ne _ _ n1]; exact h.ring, by rw [HMap.upd_ne _ _ n2, setM_esF, setM_len]; exact h.map, fun e' he' => ?_, by rw [setM_keys]; exact h.nd, by rw [setM_blks]; exact h.bl⟩, fun a ha => HMap.upd_ne _ _ fun k => ha (by rw [k]; exact hb1)⟩
  unfold setM at he'
  obtain ⟨x, hx, rfl⟩ := List.mem_map.1 he'
  by_cases hk : x.1 = n
  · have hxe : x = e := map_inj h.nd hx hm (by rw [hk, hn])
    subst hxe
    rw [if_pos hk]
    exact HMap.upd_self _ _ _
  · rw [if_neg hk]
    have : x.2.1 ≠ e.2.1 := fun k => hk (by
      have hxe : x = e := map_inj (f := fun z : Ent => z.2.1) hbl2.2 hx hm k
      rw [hxe, hn])
    rw [HMap.upd_ne _ _ this]
    exact h.mem x hx
theorem Frm.refl (H : HMap) (M : List Ent) : Frm H H M := fun _ _ => rfl
theorem Frm.trans {H H' H'' : HMap} {M M' : List Ent} (h : Frm H H' M) (k : Frm H' H'' M') (e : M'.map (·.2.1) = M.map (·.2.1)) : Frm H H'' M := fun a ha => (k a (by rw [e]; exact ha)).trans (h a ha)
theorem put_peer (H : HMap) (a : Nat) (m : Mb) {m' : Mb} (h : m'.lv = m.lv) : H.upd a (.cells (mbD m')) = H.upd a (.cells ((mbD m).take 1 ++ prD m' ++ (mbD m).drop 4)) := by
  unfold mbD prD
  rw [h]
  rfl
theorem recM_lv (M : List Ent) (m : Mb) (n : Int) : (recM M m n).lv = m.lv := by unfold recM; split <;> rfl
def folM (m : Mb) (s : Int) (o : Mb) : Mb := { m with s1 := s, s2 := o.s1, s3 := o.s2 }
/-- What a look of a member comes to. -/
def stab1 (M : List Ent) (n : Int) : List Ent := setM M n (folM (getM M n) (hdM M (getM M n)) (getM M (hdM M (getM M n))))
def stabS (M : List Ent) (n : Int) : Int := if nearB (stab1 M n) (getM (stab1 M n) (hdM M (getM M n))).pr (getM M n).id (hdM M (getM M n)) = true then (getM (stab1 M n) (hdM M (getM M n))).pr else hdM M (getM M n)
def stab2 (M : List Ent) (n : Int) : List Ent := if nearB (stab1 M n) (getM (stab1 M n) (hdM M (getM M n))).pr (getM M n).id (hdM M (getM M n)) = true
  then setM (stab1 M n) n (folM (getM (stab1 M n) n) (getM (stab1 M n) (hdM M (getM M n))).pr (getM (stab1 M n) (getM (stab1 M n) (hdM M (getM M n))).pr)) else stab1 M n
def stabM (M : List Ent) (n : Int) : List Ent := setM (stab2 M n) (stabS M n) (recM (stab2 M n) (getM (stab2 M n) (stabS M n)) n)
set_option maxHeartbeats 8000000 in
theorem ok53 (H : HMap) (ep r b : Nat) (M : List Ent) (hR : RingAt H r b M) (n : Int) (hn : livesM M n = true) (hs : livesM M (hdM M (getM M n)) = true) : CallOk Try.prog 53 [.d (pD r), .d (nI n)] [.heap ep H]
    (fun v s => v = .d (.lit .nilIface) ∧ ∃ ep' H', s = [.heap ep' H'] ∧ RingAt H' r b (stabM M n) ∧ Frm H H' M) := by
  refine CallOk.of tysHOk mixed od53 Try.func53 rfl rfl code53 ?_
  obtain ⟨e, he, hel⟩ := lives_some hn
  have hg := getM_of he
  have kL := ok48 H ep r b M hR n
  rw [hn] at kL
  refine W.callH rfl kL rfl rfl ?_
  refine W.ite_f rfl ?_
  refine W.exL _ hR.rd ?_
  refine W.exL _ (hR.look n _ (look_some he)) ?_
  refine W.exL _ (hR.peer (fndM_mem he).1) ?_
  refine W.callH rfl (ok50 H ep r b M hR e.2.2) rfl rfl ?_
  unfold stabM stabS stab2 stab1
  rw [hg] at hs ⊢
  generalize hdM M e.2.2 = s at hs ⊢
  obtain ⟨f, hf, hfl⟩ := lives_some hs
  rw [getM_of hf]
  refine W.exL _ hR.rd ?_
  refine W.exL _ (hR.look s _ (look_some hf)) ?_
  refine W.exL _ (hR.peer (fndM_mem hf).1) ?_
  refine W.pure (ok66 s f.2.2) rfl rfl ?_
  refine W.exH (H.upd e.2.1 (.cells (mbD (folM e.2.2 s f.2.2)))) ⟨_, hR.mem e (fndM_mem he).1, Nat.le_refl 4, rfl⟩ ?_
  obtain ⟨hR1, hF1⟩ := hR.set he (folM e.2.2 s f.2.2)
  have he1 := fndM_set_self he (folM e.2.2 s f.2.2)
  have hb1 := setM_blks M n (folM e.2.2 s f.2.2)
  obtain ⟨f1, hf1⟩ : ∃ f1, fndM (setM M n (folM e.2.2 s f.2.2)) s = some f1 := by rw [fndM_set, hf]; exact ⟨_, rfl⟩
  rw [getM_of hf1, getM_of he1]
  generalize hM1 : setM M n (folM e.2.2 s f.2.2) = M1 at *
  refine W.exL _ hR1.rd ?_
  refine W.exL _ (hR1.look s _ (look_some hf1)) ?_
  refine W.exL _ (hR1.pred (fndM_mem hf1).1) ?_
  refine W.exL _ (hR1.place (e := (n, e.2.1, folM e.2.2 s f.2.2)) (fndM_mem he1).1) ?_
  have kN := ok67 _ (ep + 1) r b M1 hR1 f1.2.2.pr e.2.2.id s
  cases hnb : nearB M1 f1.2.2.pr e.2.2.id s with
  | false =>
    rw [hnb] at kN
    refine W.callH rfl kN rfl rfl ?_
    refine W.ite_f rfl ?_
    rw [if_neg (by simp), if_neg (by simp)]
    refine W.exL _ hR1.rd ?_
    refine W.exL _ (hR1.look s _ (look_some hf1)) ?_
    refine W.exL _ hR1.rd ?_
    refine W.exL _ (hR1.look s _ (look_some hf1)) ?_
    refine W.exL _ (hR1.peer (fndM_mem hf1).1) ?_
    refine W.callH rfl (ok68 _ _ r b _ hR1 f1.2.2 n) rfl rfl ?_
    obtain ⟨hR3, hF3⟩ := hR1.set hf1 (recM _ f1.2.2 n)
    refine W.exH (HMap.upd _ f1.2.1 (.cells (mbD (recM _ f1.2.2 n)))) ⟨_, hR1.mem f1 (fndM_mem hf1).1, Nat.le_refl 4, put_peer _ _ _ (recM_lv _ _ _)⟩ ?_
    refine W.ret (RetQ.all ⟨rfl, _, _, rfl, ?_, hF1.trans hF3 hb1⟩)
    rw [getM_of hf1]
    exact hR3
  | true =>
    rw [hnb] at kN
    refine W.callH rfl kN rfl rfl ?_
    refine W.ite_t rfl ?_
    rw [if_pos rfl, if_pos rfl]
    have hql : livesM M1 f1.2.2.pr = true := by
      unfold nearB at hnb
      split at hnb
      · split at hnb
        · assumption
        · cases hnb
      · cases hnb
    generalize f1.2.2.pr = q at *
    obtain ⟨f2, hf2, _⟩ := lives_some hql
    rw [getM_of hf2]
    refine W.exL _ hR1.rd ?_
    refine W.exL _ (hR1.look q _ (look_some hf2)) ?_
    refine W.exL _ (hR1.peer (fndM_mem hf2).1) ?_
    refine W.pure (ok66 q f2.2.2) rfl rfl ?_
    obtain ⟨hR2, hF2⟩ := hR1.set he1 (folM (folM e.2.2 s f.2.2) q f2.2.2)
    have hb2 := setM_blks M1 n (folM (folM e.2.2 s f.2.2) q f2.2.2)
    refine W.exH (HMap.upd _ e.2.1 (.cells (mbD (folM (folM e.2.2 s f.2.2) q f2.2.2)))) ⟨_, hR1.mem (n, e.2.1, folM e.2.2 s f.2.2) (fndM_mem he1).1, Nat.le_refl 4, rfl⟩ ?_
    obtain ⟨f3, hf3⟩ : ∃ f3, fndM (setM M1 n (folM (folM e.2.2 s f.2.2) q f2.2.2)) q = some f3 := by rw [fndM_set, hf2]; exact ⟨_, rfl⟩
    refine W.exL _ hR2.rd ?_
    refine W.exL _ (hR2.look q _ (look_some hf3)) ?_
    refine W.exL _ hR2.rd ?_
    refine W.exL _ (hR2.look q _ (look_some hf3)) ?_
    refine W.exL _ (hR2.peer (fndM_mem hf3).1) ?_
    refine W.callH rfl (ok68 _ _ r b _ hR2 f3.2.2 n) rfl rfl ?_
    obtain ⟨hR3, hF3⟩ := hR2.set hf3 (recM _ f3.2.2 n)
    refine W.exH (HMap.upd _ f3.2.1 (.cells (mbD (recM _ f3.2.2 n)))) ⟨_, hR2.mem f3 (fndM_mem hf3).1, Nat.le_refl 4, put_peer _ _ _ (recM_lv _ _ _)⟩ ?_
    refine W.ret (RetQ.all ⟨rfl, _, _, rfl, ?_, (hF1.trans hF2 hb1).trans hF3 (hb2.trans hb1)⟩)
    rw [getM_of hf3]
    exact hR3
end Go.Proofs.Ytddhlmejaobcgaa.Bk

set_option maxRecDepth 100000
set_option linter.unusedVariables false
set_option linter.unusedSimpArgs false
set_option linter.ambiguousOpen false
/- A round; a member goes; what a member knows. -/
namespace Go.Proofs.Ytddhlmejaobcgaa.Bk
open Go Go.Am Co Pi
def od27 : Ords := []
theorem code27 : codeB Try.f27.ntmps od27 (match Try.f27.body with | some c => c | none => .skip) = true := by kernel_rfl
def od45 : Ords := []
theorem code45 : codeB Try.f45.ntmps od45 (match Try.f45.body with | some c => c | none => .skip) = true := by kernel_rfl
def od28 : Ords := []
theorem code28 : codeB Try.f28.ntmps od28 (match Try.f28.body with | some c => c | none => .skip) = true := by kernel_rfl
def od52 : Ords := []
theorem code52 : codeB Try.f52.ntmps od52 (match Try.f52.body with | some c => c | none => .skip) = true := by kernel_rfl
def od54 : Ords := [(6, [0, 1, 2, 3, 4, 5, 6, 7, 8])]
theorem code54 : codeB Try.f54.ntmps od54 (match Try.f54.body with | some c => c | none => .skip) = true := by kernel_rfl
def od30 : Ords := []
theorem code30 : codeB Try.f30.ntmps od30 (match Try.f30.body with | some c => c | none => .skip) = true := by kernel_rfl
def od29 : Ords := []
theorem code29 : codeB Try.f29.ntmps od29 (match Try.f29.body with | some c => c | none => .skip) = true := by kernel_rfl
abbrev cfE (c : Int) : D := .iface 114 (.box [sD ⟨#[99, 104, 111, 114, 100]⟩, nI 0, .iface 85 (nI c)] 0)
theorem ok45 (c : Int) : Go.Am.Pure Try.prog 45 [.d (nI c)] (.d (cfE c)) := by
  refine CallOk.of tysHOk mixed od45 Try.func45 rfl rfl code45 ?_
  exact W.ret (RetQ.pure rfl rfl)
/-- What a round needs of members. -/
structure Good (G : List Ent → Prop) : Prop where
  head : ∀ M n, G M → livesM M n = true → livesM M (hdM M (getM M n)) = true
  step : ∀ M n, G M → livesM M n = true → G (stabM M n)
  lives : ∀ M n, G M → livesM M n = true → ∀ k, livesM (stabM M n) k = livesM M k
theorem stabM_blks (M : List Ent) (n : Int) : (stabM M n).map (·.2.1) = M.map (·.2.1) := by
  unfold stabM stab2 stab1
  rw [setM_blks]
  split
  · rw [setM_blks, setM_blks]
  · rw [setM_blks]
theorem stabM_len (M : List Ent) (n : Int) : (stabM M n).length = M.length := by
  have := congrArg List.length (stabM_blks M n)
  simpa using this
theorem Frm.ext {H H1 H2 : HMap} {M : List Ent} {r b : Nat} (h : Ext H H1) (k : Frm H1 H2 M) (hR : RingAt H r b M) : ∀ a o, a ∉ r :: b :: M.map (·.2.1) → H a = some o → H2 a = some o := fun a o ha e => by
  rw [k a fun q => ha (List.mem_cons_of_mem _ (List.mem_cons_of_mem _ q))]
  exact h a o e
/-- What isn't the ring's stays. -/
def Keeps (H H' : HMap) (r b : Nat) (M : List Ent) : Prop := ∀ a o, a ∉ r :: b :: M.map (·.2.1) → H a = some o → H' a = some o
theorem Keeps.trans {H H' H'' : HMap} {r b : Nat} {M M' : List Ent} (h : Keeps H H' r b M) (k : Keeps H' H'' r b M') (e : M'.map (·.2.1) = M.map (·.2.1)) : Keeps H H'' r b M := fun a o ha q => k a o (by rw [e]; exact ha) (h a o ha q)
theorem Keeps.ext {H H' : HMap} {r b : Nat} {M : List Ent} (h : Ext H H') : Keeps H H' r b M := fun a o _ e => h a o e
theorem Keeps.frm {H H' : HMap} {r b : Nat} {M : List Ent} (h : Frm H H' M) : Keeps H H' r b M := fun a o ha e => by
  rw [h a fun q => ha (List.mem_cons_of_mem _ (List.mem_cons_of_mem _ q))]; exact e
theorem fold_good {G : List Ent → Prop} (hG : Good G) : ∀ (l : List Int) (M : List Ent), G M → (∀ n ∈ l, livesM M n = true) → G (l.foldl stabM M) ∧ (∀ k, livesM (l.foldl stabM M) k = livesM M k) ∧ (l.foldl stabM M).map (·.2.1) = M.map (·.2.1)
  | [], M, h, _ => ⟨h, fun _ => rfl, rfl⟩
  | n :: l, M, h, hl => by
    have hn := hl n List.mem_cons_self
    obtain ⟨h1, h2, h3⟩ := fold_good hG l (stabM M n) (hG.step M n h hn) fun k hk => by rw [hG.lives M n h hn]; exact hl k (List.mem_cons_of_mem _ hk)
    exact ⟨h1, fun k => by rw [List.foldl_cons, h2, hG.lives M n h hn], by rw [List.foldl_cons, h3, stabM_blks]⟩
theorem kp1H : ∀ i, i < 1 → ([0] : List Nat)[i]? = some i := by
  intro i hi
  have : i = 0 := by omega
  subst this
  rfl
theorem lt1 : ∀ i ∈ ([0] : List Nat), i < 1 := fun i hi => by obtain rfl := List.mem_singleton.1 hi; exact Nat.zero_lt_one
theorem snoc_fold (l : List Int) (M : List Ent) {i : Nat} {a : Int} (h : l[i]? = some a) : (l.take (i + 1)).foldl stabM M = stabM ((l.take i).foldl stabM M) a := by
  rw [List.take_add_one, h, List.foldl_append]; rfl
set_option maxHeartbeats 8000000 in
theorem ok27 {G : List Ent → Prop} (hG : Good G) (H : HMap) (ep r b : Nat) (M : List Ent) (hR : RingAt H r b M) (hM : M.length < 50) (hg : G M) : CallOk Try.prog 27 [.d (pD r)] [.heap ep H]
    (fun v s => v = .tuple [] ∧ ∃ l ep' H', LiveOf M l ∧ s = [.heap ep' H'] ∧ RingAt H' r b (l.foldl stabM M) ∧ Keeps H H' r b M) := by
  refine CallOk.of tysHOk mixed od27 Try.func27 rfl rfl code27 ?_
  refine W.callT [0] (ok31 H ep r b M hR hM) (by decide) rfl rfl rfl rfl ?_
  rintro v s ⟨l, ep1, H1, hl, hll, rfl, rfl, hx⟩
  have hR1 := hR.ext hx
  have hlv : ∀ n ∈ l, livesM M n = true := fun n hn => (hl.all n).1 hn
  refine W.loop (fun k fr σ => ∃ (i ep' : Nat) (H' : HMap), fr = [(0, .d (pD r)), (5, .d (.sl l.length (flat eC l))), (6, .d (nI l.length)), (7, .d (nI i))] ∧ σ = [.heap ep' H'] ∧ i ≤ l.length ∧ RingAt H' r b ((l.take i).foldl stabM M) ∧ Keeps H H' r b M ∧ k = l.length - i) l.length
    (Start.of [0, 5, 6, 7] [] (by simp)) ⟨0, ep1, H1, rfl, rfl, Nat.zero_le _, hR1, Keeps.ext hx, rfl⟩ ?_
  rintro k fr σ ⟨i, ep', H', rfl, rfl, hi, hR', hK, rfl⟩
  by_cases hlt : i < l.length
  · obtain ⟨a, ha⟩ : ∃ a, l[i]? = some a := ⟨_, List.getElem?_eq_getElem hlt⟩
    have gi : IntKind.i64.wrap ((i : Int) + 1) = ((i + 1 : Nat) : Int) := by rw [wrap64 (by omega) (by omega)]; rfl
    obtain ⟨q1, q2, q3⟩ := fold_good hG (l.take i) M hg fun n hn => hlv n (List.mem_of_mem_take hn)
    have hla : livesM ((l.take i).foldl stabM M) a = true := by rw [q2]; exact hlv a (List.mem_of_getElem? ha)
    refine W.ite_t (decide_eq_true (by omega)) ?_
    refine W.need (ix_ok eC_len (by decide) hlt) ?_
    refine W.ld (sl_ix ha) ?_
    refine W.callT [0] (ok53 H' ep' r b _ hR' a hla (hG.head _ a q1 hla)) (by decide) rfl rfl rfl rfl ?_
    rintro v s ⟨rfl, ep2, H2, rfl, hR2, hF2⟩
    refine W.ret ⟨_, _, _, ?_, Trim.of [0, 5, 6, 7] [0] (by decide) lt1 kp1H, i + 1, ep2, H2, ?_, rfl, by omega, ?_, hK.trans (Keeps.frm hF2) q3, rfl⟩
    · omega
    · rw [← gi]; rfl
    · rw [snoc_fold l M ha]; exact hR2
  · obtain rfl : i = l.length := by omega
    refine W.ite_f (decide_eq_false (by omega)) ?_
    refine W.ret ?_
    rw [List.take_length] at hR'
    exact W.ret (RetQ.all ⟨rfl, l, _, _, hl, rfl, hR', hK⟩)
/-! ### a member goes -/
def killM (M : List Ent) (n : Int) : List Ent := setM M n { getM M n with lv := false }
/-- May it go? -/
def mayM (M : List Ent) (n : Int) : Prop := ∀ k, livesM (killM M n) k = true → hdM (killM M n) (getM (killM M n) k) ≠ -1
theorem lives_kill {M : List Ent} {n : Int} (h : livesM M n = true) (k : Int) : livesM (killM M n) k = true → livesM M k = true := fun hk => by
  obtain ⟨e, he, _⟩ := lives_some h
  unfold killM at hk
  rw [lives_get, getM_set he] at hk
  split at hk
  · cases hk
  · rw [lives_get]; exact hk
theorem setM_setM (M : List Ent) (n : Int) (m m' : Mb) : setM (setM M n m) n m' = setM M n m' := by
  unfold setM
  rw [List.map_map]
  refine List.map_congr_left fun e _ => ?_
  by_cases h : e.1 = n
  · simp [Function.comp, h]
  · simp [Function.comp, h]
theorem setM_same {M : List Ent} (hn : (M.map (·.1)).Nodup) {n : Int} {e : Ent} (h : fndM M n = some e) : setM M n e.2.2 = M := by
  obtain ⟨hm, he⟩ := fndM_mem h
  unfold setM
  conv => rhs; rw [← List.map_id M]
  refine List.map_congr_left fun x hx => ?_
  by_cases hk : x.1 = n
  · have : x = e := map_inj hn hx hm (by rw [hk, he])
    subst this
    rw [if_pos hk]; rfl
  · rw [if_neg hk]; rfl
theorem put_lv (H : HMap) (a : Nat) (m : Mb) (v : Bool) : H.upd a (.cells (mbD { m with lv := v })) = H.upd a (.cells ((mbD m).take 0 ++ [D.lit (.bool v)] ++ (mbD m).drop 1)) := rfl
set_option maxHeartbeats 8000000 in
theorem ok28 (H : HMap) (ep r b : Nat) (M : List Ent) (hR : RingAt H r b M) (hM : M.length < 50) (n : Int) (h4 : 4 ≤ n) (hn : livesM M n = true) : CallOk Try.prog 28 [.d (pD r), .d (nI n)] [.heap ep H]
    (fun v s => ∃ ep' H', s = [.heap ep' H'] ∧ Keeps H H' r b M ∧ ((v = .d (.lit .nilIface) ∧ mayM M n ∧ RingAt H' r b (killM M n)) ∨ (v = .d (cfE 5) ∧ ¬ mayM M n ∧ RingAt H' r b M))) := by
  refine CallOk.of tysHOk mixed od28 Try.func28 rfl rfl code28 ?_
  obtain ⟨e, he, hel⟩ := lives_some hn
  have kL := ok48 H ep r b M hR n
  rw [hn] at kL
  refine W.callH rfl kL rfl rfl ?_
  refine W.ite_f rfl ?_
  refine W.ite_f (decide_eq_false (by omega)) ?_
  refine W.exL _ hR.rd ?_
  refine W.exL _ (hR.look n _ (look_some he)) ?_
  have hk : killM M n = setM M n { e.2.2 with lv := false } := by unfold killM; rw [getM_of he]
  obtain ⟨hR1, hF1⟩ := hR.set he { e.2.2 with lv := false }
  rw [← hk] at hR1
  have hb1 : (killM M n).map (·.2.1) = M.map (·.2.1) := by rw [hk, setM_blks]
  have hl1 : (killM M n).length = M.length := by rw [hk, setM_len]
  have he1 : fndM (killM M n) n = some (n, e.2.1, { e.2.2 with lv := false }) := by rw [hk]; exact fndM_set_self he _
  refine W.exH (H.upd e.2.1 (.cells (mbD { e.2.2 with lv := false }))) ⟨_, hR.mem e (fndM_mem he).1, by show 1 ≤ 4; decide, put_lv _ _ _ _⟩ ?_
  refine W.callT [0] (ok31 _ _ r b (killM M n) hR1 (by omega)) (by decide) rfl rfl rfl rfl ?_
  rintro v s ⟨l, ep1, H1, hl, hll, rfl, rfl, hx⟩
  have hR2 := hR1.ext hx
  refine W.loop (fun k fr σ => ∃ (i : Nat), fr = [(0, .d (pD r)), (1, .d (nI n)), (24, .d (.sl l.length (flat eC l))), (25, .d (nI l.length)), (26, .d (nI i))] ∧ σ = [.heap ep1 H1] ∧ i ≤ l.length ∧ (∀ (j : Nat) a, j < i → l[j]? = some a → hdM (killM M n) (getM (killM M n) a) ≠ -1) ∧ k = l.length - i) l.length
    (Start.of [0, 1, 24, 25, 26] [] (by simp)) ⟨0, rfl, rfl, Nat.zero_le _, fun j a hj => absurd hj (Nat.not_lt_zero _), rfl⟩ ?_
  rintro k fr σ ⟨i, rfl, rfl, hi, hb, rfl⟩
  by_cases hlt : i < l.length
  · obtain ⟨a, ha⟩ : ∃ a, l[i]? = some a := ⟨_, List.getElem?_eq_getElem hlt⟩
    have gi : IntKind.i64.wrap ((i : Int) + 1) = ((i + 1 : Nat) : Int) := by rw [wrap64 (by omega) (by omega)]; rfl
    have hla : livesM (killM M n) a = true := (hl.all a).1 (List.mem_of_getElem? ha)
    obtain ⟨f, hf, _⟩ := lives_some hla
    refine W.ite_t (decide_eq_true (by omega)) ?_
    refine W.need (ix_ok eC_len (by decide) hlt) ?_
    refine W.ld (sl_ix ha) ?_
    refine W.exL _ hR2.rd ?_
    refine W.exL _ (hR2.look a _ (look_some hf)) ?_
    refine W.exL _ (hR2.peer (fndM_mem hf).1) ?_
    refine W.callH rfl (ok50 H1 ep1 r b _ hR2 f.2.2) rfl rfl ?_
    have hgf := getM_of hf
    by_cases hc : hdM (killM M n) f.2.2 = -1
    · refine W.ite_t (beq_iff_eq.2 hc) ?_
      refine W.exL _ hR2.rd ?_
      refine W.exL _ (hR2.look n _ (look_some he1)) ?_
      obtain ⟨hR3, hF3⟩ := hR2.set he1 { e.2.2 with lv := true }
      have hM3 : setM (killM M n) n { e.2.2 with lv := true } = M := by
        rw [hk, setM_setM]
        have : ({ e.2.2 with lv := true } : Mb) = e.2.2 := by cases hm : e.2.2; rw [hm] at hel; simp at hel; rw [hel]
        rw [this]
        exact setM_same hR.nd he
      rw [hM3] at hR3
      refine W.exH (HMap.upd _ e.2.1 (.cells (mbD { e.2.2 with lv := true }))) ⟨_, hR2.mem (n, e.2.1, { e.2.2 with lv := false }) (fndM_mem he1).1, by show 1 ≤ 4; decide, put_lv _ _ { e.2.2 with lv := false } true⟩ ?_
      refine W.pure (ok45 5) rfl rfl ?_
      refine W.ret ?_
      refine W.ret (RetQ.all ⟨_, _, rfl, ?_, .inr ⟨rfl, fun hm => ?_, hR3⟩⟩)
      · exact ((Keeps.frm hF1).trans (Keeps.ext hx) hb1).trans (Keeps.frm hF3) hb1
      · exact hm a hla (by rw [hgf]; exact hc)
    · refine W.ite_f (beq_eq_false_iff_ne.2 hc) ?_
      refine W.ret ⟨_, _, _, ?_, Trim.of [0, 1, 24, 25, 26] [0] (by decide) lt1 kp1H, i + 1, ?_, rfl, by omega, ?_, rfl⟩
      · omega
      · rw [← gi]; rfl
      · intro j a' hj hja
        by_cases e2 : j = i
        · subst e2
          rw [ha] at hja
          obtain rfl := Option.some.inj hja
          rw [hgf]; exact hc
        · exact hb j a' (by omega) hja
  · obtain rfl : i = l.length := by omega
    refine W.ite_f (decide_eq_false (by omega)) ?_
    refine W.ret ?_
    refine W.ret (RetQ.all ⟨_, _, rfl, (Keeps.frm hF1).trans (Keeps.ext hx) hb1, .inl ⟨rfl, fun k hk => ?_, hR2⟩⟩)
    obtain ⟨j, hj, rfl⟩ := List.getElem_of_mem ((hl.all k).2 hk)
    exact hb j _ hj (List.getElem?_eq_getElem hj)
/-! ### what a member knows -/
theorem ok52 (a b c : Int) : Go.Am.Pure Try.prog 52 [.d (.sl 3 (flat eC [a, b, c]))] (.d (.sl 3 (flat eC [a, b, c]))) := by
  refine CallOk.soft ?_
  refine CallOk.of tysHOk mixed od52 Try.func52 rfl rfl code52 ?_
  refine W.ite_f rfl ?_
  refine W.need (by intro h; cases h) ?_
  refine W.ite_f rfl ?_
  refine W.need ⟨rfl, rfl, rfl, by decide, by decide, eC_one [a, b, c]⟩ ?_
  exact W.ret (RetQ.row rfl rfl)
set_option maxHeartbeats 4000000 in
theorem ok54 (l : List Int) (hl : l.length ≤ 1000000) : Go.Am.Pure Try.prog 54 [.d (.sl l.length (flat eC l)), .d (.sl l.length (flat eC l))] (bI true) := by
  refine CallOk.of tysHOk mixed od54 Try.func54 rfl rfl code54 ?_
  have c1 : (!((l.length : Int) == (l.length : Int))) = false := by rw [beq_self_eq_true]; rfl
  refine W.ite_f c1 ?_
  refine W.loop (fun k fr σ => ∃ i : Nat, fr = [(0, .d (.sl l.length (flat eC l))), (1, .d (.sl l.length (flat eC l))), (12, .d (nI l.length)), (13, .d (nI i))] ∧ σ = [] ∧ i ≤ l.length ∧ k = l.length - i) l.length
    (Start.of [0, 1, 12, 13] [] (by simp)) ⟨0, rfl, rfl, Nat.zero_le _, rfl⟩ ?_
  rintro k fr σ ⟨i, rfl, rfl, hi, rfl⟩
  by_cases hlt : i < l.length
  · obtain ⟨a, ha⟩ : ∃ a, l[i]? = some a := ⟨_, List.getElem?_eq_getElem hlt⟩
    have gi : IntKind.i64.wrap ((i : Int) + 1) = ((i + 1 : Nat) : Int) := by rw [wrap64 (by omega) (by omega)]; rfl
    have c2 : (!(a == a)) = false := by rw [beq_self_eq_true]; rfl
    refine W.ite_t (decide_eq_true (by omega)) ?_
    refine W.need (ix_ok eC_len (by decide) hlt) ?_
    refine W.ld (sl_ix ha) ?_
    refine W.need (ix_ok eC_len (by decide) hlt) ?_
    refine W.ld (sl_ix ha) ?_
    refine W.ite_f c2 ?_
    refine W.ret ⟨_, _, _, ?_, Trim.of [0, 1, 12, 13] [] (by decide) (by simp) (by simp), i + 1, ?_, rfl, by omega, rfl⟩
    · omega
    · rw [← gi]; rfl
  · obtain rfl : i = l.length := by omega
    refine W.ite_f (decide_eq_false (by omega)) ?_
    refine W.ret ?_
    exact W.ret (RetQ.pure rfl rfl)
set_option maxHeartbeats 4000000 in
theorem ok30 (m : Mb) : Go.Am.Pure Try.prog 30 [.d (.agg (prD m)), .d (.agg (prD m))] (bI true) := by
  refine CallOk.of tysHOk mixed od30 Try.func30 rfl rfl code30 ?_
  have c1 : (m.id == m.id) = true := beq_self_eq_true _
  have c2 : (m.pr == m.pr) = true := beq_self_eq_true _
  have kE := ok54 m.su (by show 3 ≤ 1000000; decide)
  repeat (first | refine W.ite_t c1 ?_ | refine W.ite_t c2 ?_ | refine W.pure kE rfl rfl ?_ | refine W.ite_t rfl ?_ | refine W.ite_f rfl ?_)
  exact W.ret (RetQ.pure rfl rfl)
set_option maxHeartbeats 4000000 in
theorem ok29 (H : HMap) (ep r b : Nat) (M : List Ent) (hR : RingAt H r b M) (n : Int) (hn : livesM M n = true) : CallOk Try.prog 29 [.d (pD r), .d (nI n)] [.heap ep H]
    (fun v s => v = .tuple [.d (.agg (prD (getM M n))), .d (.lit .nilIface)] ∧ s = [.heap ep H]) := by
  refine CallOk.of tysHOk mixed od29 Try.func29 rfl rfl code29 ?_
  obtain ⟨e, he, hel⟩ := lives_some hn
  have kL := ok48 H ep r b M hR n
  rw [hn] at kL
  rw [getM_of he]
  refine W.callH rfl kL rfl rfl ?_
  refine W.ite_f rfl ?_
  refine W.exL _ hR.rd ?_
  refine W.exL _ (hR.look n _ (look_some he)) ?_
  refine W.exL _ (hR.peer (fndM_mem he).1) ?_
  refine W.pure (ok52 e.2.2.s1 e.2.2.s2 e.2.2.s3) rfl rfl ?_
  exact W.ret (RetQ.heap rfl rfl)
end Go.Proofs.Ytddhlmejaobcgaa.Bk

set_option maxRecDepth 100000
set_option linter.unusedVariables false
set_option linter.unusedSimpArgs false
set_option linter.ambiguousOpen false
/- A member comes. -/
namespace Go.Proofs.Ytddhlmejaobcgaa.Bk
open Go Go.Am Co Pi
def od26 : Ords := [(18, [0, 1, 2, 3, 4, 5, 1006]), (19, [0, 1, 2, 3, 4, 5, 6, 7, 8, 9, 10, 11, 12, 1013])]
theorem code26 : codeB Try.f26.ntmps od26 (match Try.f26.body with | some c => c | none => .skip) = true := by kernel_rfl
theorem esF_snoc (e : Ent) : ∀ (M : List Ent) (i : Nat), esF i (M ++ [e]) = esF i M ++ [(e.1, e.2.1, i + M.length)]
  | [], i => rfl
  | m :: M, i => by
    show (m.1, m.2.1, i) :: esF (i + 1) (M ++ [e]) = (m.1, m.2.1, i) :: (esF (i + 1) M ++ [(e.1, e.2.1, i + (M.length + 1))])
    rw [esF_snoc e M (i + 1), show i + 1 + M.length = i + (M.length + 1) from by omega]
theorem fndM_no {M : List Ent} {n : Int} (h : fndM M n = none) : ∀ e ∈ M, e.1 ≠ n := fun e he k => by
  unfold fndM at h
  have := List.find?_eq_none.1 h e he
  simp [k] at this
theorem RingAt.add {H : HMap} {r b : Nat} {M : List Ent} (h : RingAt H r b M) {n : Int} (hn : fndM M n = none) {blk : Nat} (hb : H blk = none) (m : Mb) :
    RingAt ((H.upd blk (.cells (mbD m))).upd b (.imap (esF 0 M ++ [(n, blk, M.length)]) (M.length + 1))) r b (M ++ [(n, blk, m)]) ∧
      Keeps H ((H.upd blk (.cells (mbD m))).upd b (.imap (esF 0 M ++ [(n, blk, M.length)]) (M.length + 1))) r b M := by
  have hbl := List.nodup_cons.1 h.bl
  have hbl2 := List.nodup_cons.1 hbl.2
  have hrb : r ≠ b := fun k => hbl.1 (by rw [k]; exact List.mem_cons_self)
  have n1 : r ≠ blk := by rintro rfl; rw [h.ring] at hb; cases hb
  have n2 : b ≠ blk := by rintro rfl; rw [h.map] at hb; cases hb
  have n3 : ∀ e ∈ M, e.2.1 ≠ blk := fun e he k => by have := h.mem e he; rw [k, hb] at this; cases this
  have n4 : ∀ e ∈ M, e.2.1 ≠ b := fun e he k => hbl2.1 (by rw [← k]; exact List.mem_map.2 ⟨e, he, rfl⟩)
  refine ⟨⟨by rw [HMap.upd_ne _ _ hrb, HMap.upd_ne _ _ n1]; exact h.ring, ?_, fun e he => ?_, ?_, ?_⟩, fun a o ha e => ?_⟩
  · rw [HMap.upd_self, esF_snoc, List.length_append]
    rw [Nat.zero_add]
    rfl
  · rcases List.mem_append.1 he with he | he
    · rw [HMap.upd_ne _ _ (n4 e he), HMap.upd_ne _ _ (n3 e he)]
      exact h.mem e he
    · obtain rfl := List.mem_singleton.1 he
      rw [HMap.upd_ne _ _ (Ne.symm n2)]
      exact HMap.upd_self _ _ _
  · rw [List.map_append, List.nodup_append]
    refine ⟨h.nd, by simp, fun x hx y hy k => ?_⟩
    obtain ⟨e, he, rfl⟩ := List.mem_map.1 hx
    have hy : y = n := by simpa using hy
    exact fndM_no hn e he (by rw [k, hy])
  · rw [List.map_append]
    show (r :: b :: (M.map (·.2.1) ++ [blk])).Nodup
    have e1 : r :: b :: (M.map (·.2.1) ++ [blk]) = (r :: b :: M.map (·.2.1)) ++ [blk] := rfl
    rw [e1, List.nodup_append]
    refine ⟨h.bl, by simp, fun x hx y hy k => ?_⟩
    obtain rfl := List.mem_singleton.1 hy
    subst k
    rcases List.mem_cons.1 hx with k | hx
    · exact n1 k.symm
    · rcases List.mem_cons.1 hx with k | hx
      · exact n2 k.symm
      · obtain ⟨e, he, k⟩ := List.mem_map.1 hx
        exact n3 e he k
  · have a1 : a ≠ b := by rintro rfl; exact ha (List.mem_cons_of_mem _ List.mem_cons_self)
    have a2 : a ≠ blk := by rintro rfl; rw [hb] at e; cases e
    rw [HMap.upd_ne _ _ a1, HMap.upd_ne _ _ a2]
    exact e
theorem Ext.none {H H' : HMap} (h : Ext H H') {a : Nat} (k : H' a = none) : H a = none := by
  cases hc : H a with
  | none => rfl
  | some o => have := h a o hc; rw [k] at this; cases this
/-- What comes of one who wants to join. -/
def Joined (M M' : List Ent) (n id : Int) : Prop := ∃ (at_ : Int) (blk : Nat), livesM M at_ = true ∧ withinB id (getM M at_).id (idM M (hdM M (getM M at_))) = true ∧ (∀ k, livesM M k = true → idM M k ≠ id) ∧
  M' = M ++ [(n, blk, ⟨true, id, at_, (getM M at_).s1, (getM M at_).s2, (getM M at_).s3⟩)]
set_option maxHeartbeats 8000000 in
theorem ok26 {G : List Ent → Prop} (hG : Good G) (H : HMap) (ep r b : Nat) (M : List Ent) (hR : RingAt H r b M) (hM : M.length < 50) (hg : G M) (n id via : Int) (h0 : 0 ≤ n) (h32 : n < 32) (hn : fndM M n = none) :
    CallOk Try.prog 26 [.d (pD r), .d (nI n), .d (idD id), .d (nI via)] [.heap ep H]
    (fun v s => ∃ ep' H', s = [.heap ep' H'] ∧ Keeps H H' r b M ∧ ((v = .d (.lit .nilIface) ∧ ∃ M', Joined M M' n id ∧ (∀ e ∈ M', e ∈ M ∨ H e.2.1 = none) ∧ RingAt H' r b M') ∨ ((∃ c, v = .d (cfE c)) ∧ RingAt H' r b M))) := by
  refine CallOk.of tysHOk mixed od26 Try.func26 rfl rfl code26 ?_
  have c1 : decide (n < 0) = false := decide_eq_false (by omega)
  have c2 : decide (n ≥ 32) = false := decide_eq_false (by omega)
  repeat (first | refine W.ite_f c1 ?_ | refine W.ite_f c2 ?_ | refine W.ite_t rfl ?_ | refine W.ite_f rfl ?_)
  refine W.exL _ hR.rd ?_
  refine W.exL _ (hR.look n _ (look_none hn)) ?_
  repeat (first | refine W.ite_t rfl ?_ | refine W.ite_f rfl ?_)
  refine W.callH rfl (ok48 H ep r b M hR via) rfl rfl ?_
  cases hv : livesM M via with
  | false =>
    refine W.ite_t rfl ?_
    refine W.pure (ok45 6) rfl rfl ?_
    exact W.ret (RetQ.all ⟨_, _, rfl, fun a o _ h => h, .inr ⟨⟨6, rfl⟩, hR⟩⟩)
  | true =>
    refine W.ite_f rfl ?_
    refine W.callT [0] (ok31 H ep r b M hR hM) (by decide) rfl rfl rfl rfl ?_
    rintro v s ⟨l, ep1, H1, hl, hll, rfl, rfl, hx⟩
    have hR1 := hR.ext hx
    refine W.loop (fun k fr σ => ∃ (i : Nat), fr = [(0, .d (pD r)), (1, .d (nI n)), (2, .d (idD id)), (3, .d (nI via)), (35, .d (.sl l.length (flat eC l))), (36, .d (nI l.length)), (37, .d (nI i))] ∧ σ = [.heap ep1 H1] ∧ i ≤ l.length ∧ (∀ (j : Nat) a, j < i → l[j]? = some a → idM M a ≠ id) ∧ k = l.length - i) l.length
      (Start.of [0, 1, 2, 3, 35, 36, 37] [] (by simp)) ⟨0, rfl, rfl, Nat.zero_le _, fun j a hj => absurd hj (Nat.not_lt_zero _), rfl⟩ ?_
    rintro k fr σ ⟨i, rfl, rfl, hi, hb, rfl⟩
    by_cases hlt : i < l.length
    · obtain ⟨a, ha⟩ : ∃ a, l[i]? = some a := ⟨_, List.getElem?_eq_getElem hlt⟩
      have gi : IntKind.i64.wrap ((i : Int) + 1) = ((i + 1 : Nat) : Int) := by rw [wrap64 (by omega) (by omega)]; rfl
      refine W.ite_t (decide_eq_true (by omega)) ?_
      refine W.need (ix_ok eC_len (by decide) hlt) ?_
      refine W.ld (sl_ix ha) ?_
      refine W.callH rfl (ok49 H1 ep1 r b M hR1 a) rfl rfl ?_
      by_cases hc : idM M a = id
      · refine W.ite_t (beq_iff_eq.2 hc) ?_
        refine W.pure (ok45 8) rfl rfl ?_
        refine W.ret ?_
        exact W.ret (RetQ.all ⟨_, _, rfl, Keeps.ext hx, .inr ⟨⟨8, rfl⟩, hR1⟩⟩)
      · refine W.ite_f (beq_eq_false_iff_ne.2 hc) ?_
        refine W.ret ⟨_, _, _, ?_, Trim.of [0, 1, 2, 3, 35, 36, 37] [0] (by decide) lt1 kp1H, i + 1, ?_, rfl, by omega, ?_, rfl⟩
        · omega
        · rw [← gi]; rfl
        · intro j a' hj hja
          by_cases e2 : j = i
          · subst e2
            rw [ha] at hja
            obtain rfl := Option.some.inj hja
            exact hc
          · exact hb j a' (by omega) hja
    · obtain rfl : i = l.length := by omega
      have hall : ∀ k, livesM M k = true → idM M k ≠ id := fun k hk => by
        obtain ⟨j, hj, rfl⟩ := List.getElem_of_mem ((hl.all k).2 hk)
        exact hb j _ hj (List.getElem?_eq_getElem hj)
      refine W.ite_f (decide_eq_false (by omega)) ?_
      refine W.ret ?_
      refine W.loop (fun k fr σ => ∃ (i : Nat) (at_ : Int), fr = [(0, .d (pD r)), (1, .d (nI n)), (2, .d (idD id)), (11, .d (nI at_)), (49, .d (nI i))] ∧ σ = [.heap ep1 H1] ∧ i ≤ 33 ∧ livesM M at_ = true ∧ k = 33 - i) 33
        (Start.of [0, 1, 2, 11, 49] [] (by simp)) ⟨0, via, rfl, rfl, by omega, hv, rfl⟩ ?_
      rintro k fr σ ⟨i, at_, rfl, rfl, hi, hat, rfl⟩
      by_cases h33 : i < 33
      · have gi : IntKind.i64.wrap ((i : Int) + 1) = ((i + 1 : Nat) : Int) := by rw [wrap64 (by omega) (by omega)]; rfl
        obtain ⟨f, hf, _⟩ := lives_some hat
        have hgf := getM_of hf
        have hhd := hG.head M at_ hg hat
        rw [hgf] at hhd
        refine W.ite_t (decide_eq_true (by omega)) ?_
        refine W.exL _ hR1.rd ?_
        refine W.exL _ (hR1.look at_ _ (look_some hf)) ?_
        refine W.exL _ (hR1.peer (fndM_mem hf).1) ?_
        refine W.callH rfl (ok50 H1 ep1 r b _ hR1 f.2.2) rfl rfl ?_
        refine W.callH rfl (ok49 H1 ep1 r b M hR1 _) rfl rfl ?_
        refine W.pure (ok51 _ _ _) rfl rfl ?_
        cases hw : withinB id f.2.2.id (idM M (hdM M f.2.2)) with
        | true =>
          refine W.ite_t rfl ?_
          refine W.exL _ hR1.rd ?_
          refine W.pure (ok52 f.2.2.s1 f.2.2.s2 f.2.2.s3) rfl rfl ?_
          refine W.fa fun blk hblk => ?_
          obtain ⟨hR2, hK2⟩ := hR1.add hn hblk ⟨true, id, at_, f.2.2.s1, f.2.2.s2, f.2.2.s3⟩
          refine W.exH ((H1.upd blk (.cells (mbD ⟨true, id, at_, f.2.2.s1, f.2.2.s2, f.2.2.s3⟩))).upd b (.imap (esF 0 M ++ [(n, blk, M.length)]) (M.length + 1))) ⟨esF 0 M, M.length, ?_, ?_, rfl⟩ ?_
          · rw [HMap.upd_ne _ _ (by rintro rfl; rw [hR1.map] at hblk; cases hblk)]
            exact hR1.map
          · intro e he k
            obtain ⟨_, m, hm, h1, _⟩ := esF_mem he
            exact fndM_no hn m hm (by rw [h1, k])
          refine W.ret ?_
          refine W.ret (RetQ.part [0] (by simp) (by intro i hi; obtain rfl := List.mem_singleton.1 hi; exact Nat.succ_pos _) kp1H ⟨_, _, rfl, (Keeps.ext hx).trans hK2 rfl, .inl ⟨rfl, _, ⟨at_, blk, hat, by rw [hgf]; exact hw, hall, by rw [hgf]⟩, (fun e he => (List.mem_append.1 he).imp (fun k => k) fun k => by obtain rfl := List.mem_singleton.1 k; exact hx.none hblk), hR2⟩⟩)
        | false =>
          refine W.ite_f rfl ?_
          refine W.ret ⟨_, _, _, ?_, Trim.of [0, 1, 2, 11, 49] [0] (by decide) (by intro i hi; obtain rfl := List.mem_singleton.1 hi; exact Nat.succ_pos _) kp1H, i + 1, hdM M f.2.2, ?_, rfl, by omega, hhd, rfl⟩
          · omega
          · rw [← gi]; rfl
      · obtain rfl : i = 33 := by omega
        refine W.ite_f rfl ?_
        refine W.ret ?_
        refine W.pure (ok45 5) rfl rfl ?_
        exact W.ret (RetQ.all ⟨_, _, rfl, Keeps.ext hx, .inr ⟨⟨5, rfl⟩, hR1⟩⟩)
end Go.Proofs.Ytddhlmejaobcgaa.Bk
