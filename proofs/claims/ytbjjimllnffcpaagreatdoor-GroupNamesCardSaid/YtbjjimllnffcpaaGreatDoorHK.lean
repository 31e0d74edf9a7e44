import Derived.Test.YtbjjimllnffcpaaGreatDoorSPz
set_option maxRecDepth 100000
set_option linter.unusedVariables false
set_option linter.unusedSimpArgs false
/- The place of a text. -/
namespace Go.Proofs.YtbjjimllnffcpaaGreatDoor.Gr
open Go Go.Am Va
def od51 : Ords := []
theorem code51 : codeB Tryz.f51.ntmps od51 (match Tryz.f51.body with | some c => c | none => .skip) = true := by kernel_rfl
def od52 : Ords := []
theorem code52 : codeB Tryz.f52.ntmps od52 (match Tryz.f52.body with | some c => c | none => .skip) = true := by kernel_rfl
def od22 : Ords := []
theorem code22 : codeB Tryz.f22.ntmps od22 (match Tryz.f22.body with | some c => c | none => .skip) = true := by kernel_rfl
def od23 : Ords := []
theorem code23 : codeB Tryz.f23.ntmps od23 (match Tryz.f23.body with | some c => c | none => .skip) = true := by kernel_rfl
def bC (b : UInt8) : List D := [b8 b]
theorem bC_len (b : UInt8) : (bC b).length = 1 := rfl
theorem bytes_flat (l : List UInt8) : (l.map fun b => D.lit (.int .u8 (b.toNat : Int))) = flat bC l := by
  induction l with
  | nil => rfl
  | cons b r ih => simp only [List.map_cons, flat, bC, List.singleton_append]; rw [ih]
theorem bE {l : List UInt8} {i : Nat} {b : UInt8} (h : l[i]? = some b) : Elem (flat bC l) [.int .u8] (i * 1) 1 [b8 b] := Elem.all bC_len h _ rfl ⟨rfl, True.intro⟩ rfl
def xorI (a b : Int) : Int := IntKind.u64.wrap (BitVec.ofInt IntKind.u64.bits a ^^^ BitVec.ofInt IntKind.u64.bits b).toNat
def mulI (a b : Int) : Int := IntKind.u64.wrap (a * b)
def shI (a : Int) (k : Nat) : Int := a.fdiv (2 ^ k)
def qI (a b : Int) : Int := IntKind.u64.wrap (a.tdiv b)
def stepI (h : Int) (c : UInt8) : Int := xorI (mulI (xorI h (IntKind.u64.wrap (c.toNat : Int))) 18397679294719823053) (shI (mulI (xorI h (IntKind.u64.wrap (c.toNat : Int))) 18397679294719823053) 32)
def stepQ (h : Int) (c : UInt8) : Int := xorI (mulI (xorI h (IntKind.u64.wrap (c.toNat : Int))) 18397679294719823053) (qI (mulI (xorI h (IntKind.u64.wrap (c.toNat : Int))) 18397679294719823053) 4294967296)
def iniI (s : ByteArray) : Int := xorI 11400714819323198485 (IntKind.u64.wrap (s.size : Int))
def finI (h : Int) : Int := xorI (mulI h 14181476777654086739) (shI (mulI h 14181476777654086739) 29)
def finQ (h : Int) : Int := xorI (mulI h 14181476777654086739) (qI (mulI h 14181476777654086739) 536870912)
def hashI (s : ByteArray) : Int := finI (s.data.toList.foldl stepI (iniI s))
def hashQ (s : ByteArray) : Int := finQ (s.data.toList.foldl stepQ (iniI s))
theorem shq (a b : Int) (k : Nat) (d : Int) (hd : d = 2 ^ k) (h1 : 1 ≤ d) : shI (mulI a b) k = qI (mulI a b) d := by
  have h0 : 0 ≤ mulI a b ∧ mulI a b < 18446744073709551616 := by unfold mulI; rw [u64mod]; omega
  unfold shI qI
  rw [← hd, Int.fdiv_eq_ediv_of_nonneg _ (by omega), Int.tdiv_eq_ediv_of_nonneg h0.1, u64mod]
  have q0 : 0 ≤ mulI a b / d := Int.ediv_nonneg h0.1 (by omega)
  have q1 : mulI a b / d ≤ mulI a b := Int.ediv_le_self _ h0.1
  omega
theorem hash_eq (s : ByteArray) : hashQ s = hashI s := by
  have e : stepQ = stepI := by
    funext h c
    unfold stepQ stepI
    rw [shq _ _ 32 4294967296 (by decide) (by decide)]
  unfold hashQ hashI finQ finI
  rw [e, shq _ _ 29 536870912 (by decide) (by decide)]
theorem fold_snoc {l : List UInt8} {i : Nat} {x : UInt8} (f : Int → UInt8 → Int) (h : Int) (hx : l[i]? = some x) : (l.take (i + 1)).foldl f h = f ((l.take i).foldl f h) x := by
  rw [List.take_add_one, hx, List.foldl_append]
  rfl
abbrev uZ (x : Int) : D := .lit (.int .u64 x)
theorem ret_uZ {a b : Int} (h : a = b) : mkRet [.d (.lit (.int .u64 a))] = .d (uZ b) := by subst h; rfl
set_option maxHeartbeats 4000000 in
theorem ok51 (s : ByteArray) (hs : s.size ≤ 1000000) : Go.Am.Pure Tryz.prog 51 [.d (sD s)] (.d (uZ (hashI s))) := by
  refine CallOk.of tysOk mixed od51 Tryz.func51 rfl rfl code51 ?_
  have hsz : s.data.toList.length = s.size := by rw [Array.length_toList]; rfl
  refine W.need rfl ?_
  refine W.loop (fun k fr σ => ∃ i : Nat, fr = [(3, .d (uZ ((s.data.toList.take i).foldl stepI (iniI s)))), (11, .d (.sl s.size (flat bC s.data.toList))), (12, .d (nI s.size)), (13, .d (nI i))] ∧ σ = [] ∧ i ≤ s.size ∧ k = s.size - i) s.size
    (Start.of [3, 11, 12, 13] [] (by simp)) ⟨0, by rw [← bytes_flat]; rfl, rfl, Nat.zero_le _, rfl⟩ ?_
  rintro k fr σ ⟨i, rfl, rfl, hi, rfl⟩
  by_cases hlt : i < s.size
  · obtain ⟨x, hx⟩ : ∃ x, s.data.toList[i]? = some x := ⟨_, List.getElem?_eq_getElem (by omega)⟩
    have gi : IntKind.i64.wrap ((i : Int) + 1) = ((i + 1 : Nat) : Int) := by rw [wrap64 (by omega) (by omega)]; rfl
    refine W.ite_t (decide_eq_true (by omega)) ?_
    refine W.need (by rw [← hsz]; exact ix_ok bC_len (by decide) (by omega)) ?_
    refine W.ld (bE hx) ?_
    refine W.need (by decide) ?_
    refine W.ret ⟨_, _, _, ?_, Trim.of [3, 11, 12, 13] [] (by decide) (by simp) (by simp), i + 1, ?_, rfl, by omega, rfl⟩
    · omega
    · rw [← gi, fold_snoc stepI _ hx]; rfl
  · obtain rfl : i = s.size := by omega
    refine W.ite_f (decide_eq_false (by omega)) ?_
    refine W.ret ?_
    rw [← hsz, List.take_length]
    refine W.need (by decide) ?_
    exact W.ret (RetQ.pure rfl rfl)
set_option maxHeartbeats 4000000 in
theorem ok52 (s : ByteArray) (hs : s.size ≤ 1000000) : Go.Am.Pure Tryz.prog 52 [.d (sD s)] (.d (uZ (hashI s))) := by
  refine CallOk.of tysOk mixed od52 Tryz.func52 rfl rfl code52 ?_
  rw [← hash_eq]
  have hsz : s.data.toList.length = s.size := by rw [Array.length_toList]; rfl
  refine W.loop (fun k fr σ => ∃ i : Nat, fr = [(0, .d (sD s)), (3, .d (uZ ((s.data.toList.take i).foldl stepQ (iniI s)))), (4, .d (nI i))] ∧ σ = [] ∧ i ≤ s.size ∧ k = s.size - i) s.size
    (Start.of [0, 3, 4] [] (by simp)) ⟨0, rfl, rfl, Nat.zero_le _, rfl⟩ ?_
  rintro k fr σ ⟨i, rfl, rfl, hi, rfl⟩
  by_cases hlt : i < s.size
  · obtain ⟨x, hx⟩ : ∃ x, s.data.toList[i]? = some x := ⟨_, List.getElem?_eq_getElem (by omega)⟩
    have hby : s.data.getD (i : Int).toNat 0 = x := by
      rw [Int.toNat_natCast, Array.getD_eq_getD_getElem?, ← Array.getElem?_toList, hx]; rfl
    have gi : IntKind.i64.wrap ((i : Int) + 1) = ((i + 1 : Nat) : Int) := by rw [wrap64 (by omega) (by omega)]; rfl
    refine W.ite_t (decide_eq_true (by omega)) ?_
    refine W.need ⟨by omega, by omega⟩ ?_
    refine W.need (by decide) ?_
    refine W.ret ⟨_, _, _, ?_, Trim.of [0, 3, 4] [] (by decide) (by simp) (by simp), i + 1, ?_, rfl, by omega, rfl⟩
    · omega
    · rw [← gi, fold_snoc stepQ _ hx, ← hby]; rfl
  · obtain rfl : i = s.size := by omega
    refine W.ite_f (decide_eq_false (by omega)) ?_
    refine W.ret ?_
    rw [← hsz, List.take_length]
    refine W.need (by decide) ?_
    exact W.ret (RetQ.pure rfl rfl)
def groupS : ByteArray := txt [103, 114, 111, 117, 112, 32]
theorem groupS_size (s : ByteArray) : (groupS ++ s).size = 6 + s.size := by rw [ByteArray.size_append]; rfl
theorem ok22 (s : ByteArray) (hs : s.size ≤ 1000) : Go.Am.Pure Tryz.prog 22 [.d (sD s)] (.d (uZ (hashI (groupS ++ s)))) := by
  refine CallOk.of tysOk mixed od22 Tryz.func22 rfl rfl code22 ?_
  refine W.need (by show ((6 + s.size : Nat) : Int) ≤ 9223372036854775807; omega) ?_
  exact W.pure (ok51 (groupS ++ s) (by rw [groupS_size]; omega)) rfl rfl (W.ret (RetQ.pure rfl rfl))
theorem ok23 (s : ByteArray) (hs : s.size ≤ 1000) : Go.Am.Pure Tryz.prog 23 [.d (sD s)] (.d (uZ (hashI (groupS ++ s)))) := by
  refine CallOk.of tysOk mixed od23 Tryz.func23 rfl rfl code23 ?_
  refine W.need (by show ((6 + s.size : Nat) : Int) ≤ 9223372036854775807; omega) ?_
  exact W.pure (ok52 (groupS ++ s) (by rw [groupS_size]; omega)) rfl rfl (W.ret (RetQ.pure rfl rfl))
end Go.Proofs.YtbjjimllnffcpaaGreatDoor.Gr
