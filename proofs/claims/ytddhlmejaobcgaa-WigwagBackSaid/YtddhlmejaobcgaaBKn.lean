import Derived.Test.YtddhlmejaobcgaaBP
import Derived.Test.YtddhlmejaobcgaaPU
set_option maxRecDepth 100000
set_option linter.unusedVariables false
set_option linter.unusedSimpArgs false
set_option linter.ambiguousOpen false
/- The ring of the base members. -/
namespace Go.Proofs.Ytddhlmejaobcgaa.Bk
open Go Go.Am Co
def od47 : Ords := []
theorem code47 : codeB Try.f47.ntmps od47 (match Try.f47.body with | some c => c | none => .skip) = true := by kernel_rfl
def od46 : Ords := [(1, [0, 1, 2, 3, 4, 5, 6, 1007, 8])]
theorem code46 : codeB Try.f46.ntmps od46 (match Try.f46.body with | some c => c | none => .skip) = true := by kernel_rfl
def od25 : Ords := [(15, [0, 1, 2, 3, 4, 5, 6, 7, 8, 1009, 10, 1011]), (17, [0, 1, 2, 3, 4, 5, 7, 8, 2001, 6, 9, 1010]), (2001, [9, 6, 1010])]
theorem code25 : codeB Try.f25.ntmps od25 (match Try.f25.body with | some c => c | none => .skip) = true := by kernel_rfl
abbrev zs4 : List Int := [10, 20, 30, 40]
theorem zs_sorted {us : List Int} (h : Pu.Srt zs4 us) : us = zs4 := by
  obtain ⟨_, _, _, _, ys, hp, hs, hu⟩ := h
  have hl : ys.length = 4 := hp.length_eq
  obtain ⟨a, b, c, d, rfl⟩ : ∃ a b c d, ys = [a, b, c, d] := by
    match ys, hl with
    | [a, b, c, d], _ => exact ⟨a, b, c, d, rfl⟩
  have hn : [a, b, c, d].Nodup := hp.nodup_iff.2 (by decide)
  have hm : ∀ x ∈ [a, b, c, d], x = 10 ∨ x = 20 ∨ x = 30 ∨ x = 40 := fun x hx => by
    have := hp.mem_iff.1 hx
    simpa using this
  have s1 : a ≤ b := hs 0 1 (by omega) (by omega) (by show 1 < 4; omega)
  have s2 : b ≤ c := hs 1 2 (by omega) (by omega) (by show 2 < 4; omega)
  have s3 : c ≤ d := hs 2 3 (by omega) (by omega) (by show 3 < 4; omega)
  have m1 := hm a (by simp)
  have m2 := hm b (by simp)
  have m3 := hm c (by simp)
  have m4 := hm d (by simp)
  simp only [List.nodup_cons, List.mem_cons, List.mem_nil_iff, or_false, not_or] at hn
  have e : [a, b, c, d] = zs4 := by
    have e1 : a = 10 := by omega
    have e2 : b = 20 := by omega
    have e3 : c = 30 := by omega
    have e4 : d = 40 := by omega
    rw [e1, e2, e3, e4]
  rw [e] at hu
  have hst : ∀ j, j < 4 → ∀ i, i < j → Pu.g zs4 i < Pu.g zs4 j := by decide
  exact hu fun i j h1 h2 => hst j h2 i h1
theorem u_len (z : Int) : (Pu.eC z).length = 1 := rfl
theorem u_ix {l : List Int} {i : Nat} {a : Int} (h : l[i]? = some a) : Elem (flat Pu.eC l) [.int .u64] (i * 1) 1 [idD a] := Elem.all u_len h _ rfl ⟨rfl, True.intro⟩ rfl
def z4 (i : Nat) : Int := 10 * ((i : Int) + 1)
theorem z4_at : ∀ i, i < 4 → zs4[i]? = some (z4 i) := by decide
abbrev slU (l : List Int) : AV := slF Pu.eC l
theorem ok47 (j : Nat) (hj : j < 4) : Go.Am.Pure Try.prog 47 [slU zs4, .d (idD (z4 j))] (.d (nI j)) := by
  refine CallOk.of tysHOk mixed od47 Try.func47 rfl rfl code47 ?_
  refine W.loop (fun k fr σ => ∃ i : Nat, fr = [(0, slU zs4), (1, .d (idD (z4 j))), (7, .d (nI 4)), (8, .d (nI i))] ∧ σ = [] ∧ i ≤ j ∧ k = 4 - i) 4
    (Start.of [0, 1, 7, 8] [] (by simp)) ⟨0, rfl, rfl, Nat.zero_le _, rfl⟩ ?_
  rintro k fr σ ⟨i, rfl, rfl, hi, rfl⟩
  have gi : IntKind.i64.wrap ((i : Int) + 1) = ((i + 1 : Nat) : Int) := by rw [wrap64 (by omega) (by omega)]; rfl
  refine W.ite_t (decide_eq_true (by omega)) ?_
  refine W.need (ix_ok u_len (by decide) (by show i < 4; omega)) ?_
  refine W.ld (u_ix (z4_at i (by omega))) ?_
  by_cases e : i = j
  · subst e
    refine W.ite_t (beq_self_eq_true _) ?_
    refine W.ret ?_
    exact W.ret (RetQ.pure rfl rfl)
  · refine W.ite_f (beq_eq_false_iff_ne.2 (by unfold z4; omega)) ?_
    refine W.ret ⟨_, _, _, ?_, Trim.of [0, 1, 7, 8] [] (by decide) (by simp) (by simp), i + 1, ?_, rfl, by omega, rfl⟩
    · omega
    · rw [← gi]; rfl
/-- The base member that many places on. -/
def md (k : Int) : Int := (k + 4) % 4
theorem ok46 (k : Int) (h0 : -1 ≤ k) (h1 : k ≤ 6) : CallOk Try.prog 46 [.d (nI k), .ptr 0 0, .ptr 1 0] [.var [slU zs4], .var [slU zs4]] (fun v s => v = .d (nI (md k)) ∧ s = [.var [slU zs4], .var [slU zs4]]) := by
  refine CallOk.of tysHOk mixed od46 Try.func46 rfl rfl code46 ?_
  have e1 : IntKind.i64.wrap (k + 4) = k + 4 := wrap64 (by omega) (by omega)
  have hm : 0 ≤ md k ∧ md k < 4 := by unfold md; omega
  obtain ⟨j, hj⟩ := Int.eq_ofNat_of_zero_le hm.1
  have e3 : (IntKind.i64.wrap (k + 4)).tmod 4 = (j : Int) := by
    rw [e1, Int.tmod_eq_emod_of_nonneg (by omega)]
    exact hj
  have hx : ((IntKind.i64.wrap (k + 4)).tmod 4).toNat = j := by rw [e3]; rfl
  have hj4 : j < 4 := by omega
  refine W.need (by decide) ?_
  refine W.need ⟨by rw [e3]; omega, by rw [e3]; show (j : Int) < 4; omega, by intro h; cases h⟩ ?_
  refine W.ld (xs := [idD (z4 j)]) (by rw [hx]; exact u_ix (z4_at j hj4)) ?_
  refine W.pure (ok47 j hj4) rfl rfl ?_
  refine W.ret (RetQ.all ⟨?_, rfl⟩)
  rw [hj]; rfl
/-- What a base member should be. -/
def idealM (j : Nat) : Mb := ⟨true, z4 j, md ((j : Int) - 1), md ((j : Int) + 1), md ((j : Int) + 2), md ((j : Int) + 3)⟩
def idealL (i : Nat) : List (Int × Mb) := (List.range i).map fun (j : Nat) => ((j : Int), idealM j)
theorem idealL_succ (i : Nat) : idealL (i + 1) = idealL i ++ [((i : Int), idealM i)] := by unfold idealL; rw [List.range_succ, List.map_append]; rfl
theorem md_self {j : Nat} (h : j < 4) : md (j : Int) = (j : Int) := by unfold md; omega
/-- What New makes, over a heap. -/
structure Fresh (H H' : HMap) (r b : Nat) (M : List Ent) : Prop where
  ring : RingAt H' r b M
  ext : Ext H H'
  new : ∀ a ∈ r :: b :: M.map (·.2.1), H a = none
theorem Fresh.add {H H' : HMap} {r b : Nat} {M : List Ent} (h : Fresh H H' r b M) {n : Int} (hn : fndM M n = none) {blk : Nat} (hb : H' blk = none) (m : Mb) :
    Fresh H ((H'.upd blk (.cells (mbD m))).upd b (.imap (esF 0 M ++ [(n, blk, M.length)]) (M.length + 1))) r b (M ++ [(n, blk, m)]) := by
  obtain ⟨h1, h2⟩ := h.ring.add hn hb m
  refine ⟨h1, fun a o e => ?_, fun a ha => ?_⟩
  · refine h2 a o (fun k => ?_) (h.ext a o e)
    rw [h.new a k] at e; cases e
  · rw [List.map_append] at ha
    have ha : a ∈ (r :: b :: M.map (·.2.1)) ++ [blk] := ha
    rcases List.mem_append.1 ha with k | k
    · exact h.new a k
    · obtain rfl := List.mem_singleton.1 k
      cases hc : H a with
      | none => rfl
      | some o => have := h.ext a o hc; rw [hb] at this; cases this
theorem fnd_ideal {M : List Ent} {i : Nat} (h : M.map (fun e => (e.1, e.2.2)) = idealL i) {n : Int} (hn : (i : Int) ≤ n) : fndM M n = none := by
  unfold fndM
  rw [List.find?_eq_none]
  intro e he k
  have : (e.1, e.2.2) ∈ idealL i := by rw [← h]; exact List.mem_map.2 ⟨e, he, rfl⟩
  unfold idealL at this
  obtain ⟨j, hj, hk⟩ := List.mem_map.1 this
  have : (j : Int) = e.1 := congrArg Prod.fst hk
  have hj := List.mem_range.1 hj
  have k : e.1 = n := by simpa using k
  omega
theorem lt3 : ∀ i ∈ ([0, 1, 2] : List Nat), i < 5 := by decide
theorem kp3 : ∀ i, i < 3 → ([0, 1, 2] : List Nat)[i]? = some i := by decide
theorem lt5 : ∀ i ∈ ([0, 1, 2, 3, 4] : List Nat), i < 5 := by decide
theorem kp5 : ∀ i, i < 4 → ([0, 1, 2, 3, 4] : List Nat)[i]? = some i := by decide
set_option maxHeartbeats 16000000 in
theorem ok25 (H : HMap) (ep : Nat) : CallOk Try.prog 25 [slU zs4] [.heap ep H] (fun v s => ∃ r b M ep' H', v = .tuple [.d (pD r), .d (.lit .nilIface)] ∧ s = [.heap ep' H'] ∧ Fresh H H' r b M ∧ M.map (fun e => (e.1, e.2.2)) = idealL 4) := by
  refine CallOk.of tysHOk mixed od25 Try.func25 rfl rfl code25 ?_
  refine W.ite_f rfl ?_
  refine W.callT [] (Pu.ok17 zs4 (by decide)) (by decide) rfl rfl rfl rfl ?_
  rintro v s ⟨us, rfl, rfl, hsrt⟩
  have hus := zs_sorted hsrt
  subst hus
  refine W.ite_f rfl ?_
  refine W.fa fun b hb => ?_
  refine W.fa fun r hr => ?_
  have hrb : r ≠ b := by rintro rfl; rw [HMap.upd_self] at hr; cases hr
  have hr0 : H r = none := by rw [HMap.upd_ne _ _ hrb] at hr; exact hr
  have hF0 : Fresh H ((H.upd b (.imap [] 0)).upd r (.cells [.lit (.map (some b))])) r b [] := by
    refine ⟨⟨HMap.upd_self _ _ _, by rw [HMap.upd_ne _ _ (Ne.symm hrb)]; exact HMap.upd_self _ _ _, (fun e he => by cases he), by simp, by simp [hrb]⟩, (Ext.new hb _).trans (Ext.new hr _), fun a ha => ?_⟩
    simp only [List.map_nil, List.mem_cons, List.mem_nil_iff, or_false] at ha
    rcases ha with rfl | rfl
    · exact hr0
    · exact hb
  refine W.loop (fun k fr σ => ∃ (i : Nat) (M : List Ent) (ep' : Nat) (H' : HMap), fr = [(5, .d (pD r)), (6, .fn 46 [.ptr 1 0, .ptr 2 0]), (25, slU zs4), (26, .d (nI 4)), (27, .d (nI i))] ∧ σ = [.heap ep' H', .var [slU zs4], .var [slU zs4]] ∧ i ≤ 4 ∧ Fresh H H' r b M ∧ M.map (fun e => (e.1, e.2.2)) = idealL i ∧ k = 4 - i) 4
    (Start.of [5, 6, 25, 26, 27] [] (by simp)) ⟨0, [], ep, _, rfl, rfl, Nat.zero_le _, hF0, rfl, rfl⟩ ?_
  rintro k fr σ ⟨i, M, ep', H', rfl, rfl, hi, hF, hMi, rfl⟩
  by_cases hlt : i < 4
  · have gi : IntKind.i64.wrap ((i : Int) + 1) = ((i + 1 : Nat) : Int) := by rw [wrap64 (by omega) (by omega)]; rfl
    refine W.ite_t (decide_eq_true (by omega)) ?_
    refine W.need (ix_ok u_len (by decide) (by show i < 4; omega)) ?_
    refine W.ld (u_ix (z4_at i hlt)) ?_
    have w1 : IntKind.i64.wrap ((i : Int) - 1) = (i : Int) - 1 := wrap64 (by omega) (by omega)
    refine W.callF [1, 2] [.heap ep' H', .var [slU zs4], .var [slU zs4]] (ok46 (IntKind.i64.wrap ((i : Int) - 1)) (by rw [w1]; omega) (by rw [w1]; omega)) (by decide) rfl rfl rfl rfl rfl rfl ?_
    refine W.loop (fun k fr σ => ∃ q : Nat, fr = [(5, .d (pD r)), (6, .fn 46 [.ptr 1 0, .ptr 2 0]), (7, .d (nI i)), (9, .ptr 3 0), (25, slU zs4), (26, .d (nI 4)), (27, .d (nI i)), (38, .d (nI q))] ∧
        σ = [.heap ep' H', .var [slU zs4], .var [slU zs4], .var [.d (idD (z4 i)), .d (nI (md (IntKind.i64.wrap ((i : Int) - 1)))), .vec 4 q], .vec 1 q (flat Pi.eC (([md ((i : Int) + 1), md ((i : Int) + 2), md ((i : Int) + 3)] : List Int).take q))] ∧ q ≤ 3 ∧ k = 3 - q) 3
      (Start.trans (Start.of [5, 6, 7, 9, 25, 26, 27, 38] [] (by simp)) (Start.nil 3 2 1 rfl rfl)) ⟨0, rfl, rfl, Nat.zero_le _, rfl⟩ ?_
    rintro k fr σ ⟨q, rfl, rfl, hq, rfl⟩
    by_cases hq3 : q < 3
    · have gq : IntKind.i64.wrap ((q : Int) + 1) = ((q + 1 : Nat) : Int) := by rw [wrap64 (by omega) (by omega)]; rfl
      have w2 : IntKind.i64.wrap (IntKind.i64.wrap ((i : Int) + (q : Int)) + 1) = (i : Int) + ((q : Int) + 1) := by rw [wrap64 (n := (i : Int) + (q : Int)) (by omega) (by omega), wrap64 (by omega) (by omega)]; omega
      refine W.ite_t (decide_eq_true (by omega)) ?_
      refine W.callF [1, 2] _ (ok46 (IntKind.i64.wrap (IntKind.i64.wrap ((i : Int) + (q : Int)) + 1)) (by rw [w2]; omega) (by rw [w2]; omega)) (by decide) rfl rfl rfl rfl rfl rfl ?_
      refine W.alt_l ?_
      refine W.need ⟨rfl, rfl, rfl, by omega, by omega, (by intro c hc; obtain rfl := List.mem_singleton.1 hc; rfl)⟩ ?_
      have hL : ([md ((i : Int) + 1), md ((i : Int) + 2), md ((i : Int) + 3)] : List Int)[q]? = some (md (IntKind.i64.wrap (IntKind.i64.wrap ((i : Int) + (q : Int)) + 1))) := by
        rw [w2]
        have hq' : q = 0 ∨ q = 1 ∨ q = 2 := by omega
        rcases hq' with rfl | rfl | rfl <;> rfl
      refine W.ret ⟨_, _, _, ?_, Trim.of [5, 6, 7, 9, 25, 26, 27, 38] [0, 1, 2, 3, 4] (by decide) lt5 kp5, q + 1, ?_, ?_, by omega, rfl⟩
      · omega
      · rw [← gq]; rfl
      · rw [List.take_add_one, hL]
        show _ = [Blk.heap ep' H', Blk.var [slU zs4], Blk.var [slU zs4], Blk.var _, Blk.vec 1 (q + 1) (flat Pi.eC (_ ++ [_]))]
        rw [flat_snoc]
        rfl
    · obtain rfl : q = 3 := by omega
      have em1 : md (IntKind.i64.wrap ((i : Int) - 1)) = md ((i : Int) - 1) := by rw [w1]
      refine W.ite_f rfl ?_
      refine W.ret ?_
      refine W.exL _ hF.ring.rd ?_
      have hno : fndM M (md (i : Int)) = none := fnd_ideal hMi (by rw [md_self hlt]; exact Int.le_refl _)
      have hnk : ∀ e ∈ esF 0 M, e.1 ≠ md (i : Int) := fun e he k => by
        obtain ⟨_, m, hm, h1, _⟩ := esF_mem he
        exact fndM_no hno m hm (by rw [h1, k])
      have hmap : ∀ (blk : Nat), H' blk = none → ∀ o, (H'.upd blk o) b = some (.imap (esF 0 M) M.length) := fun blk hblk o => by
        rw [HMap.upd_ne _ _ (by rintro rfl; rw [hF.ring.map] at hblk; cases hblk)]
        exact hF.ring.map
      refine W.both ?_ ?_
      · refine W.callF [1, 2] _ (ok46 (i : Int) (by omega) (by omega)) (by decide) rfl rfl rfl rfl rfl rfl ?_
        refine W.fa fun blk hblk => ?_
        have hF2 := hF.add hno hblk ⟨true, z4 i, md (IntKind.i64.wrap ((i : Int) - 1)), md ((i : Int) + 1), md ((i : Int) + 2), md ((i : Int) + 3)⟩
        refine W.exH ((H'.upd blk (.cells (mbD ⟨true, z4 i, md (IntKind.i64.wrap ((i : Int) - 1)), md ((i : Int) + 1), md ((i : Int) + 2), md ((i : Int) + 3)⟩))).upd b (.imap (esF 0 M ++ [(md (i : Int), blk, M.length)]) (M.length + 1))) ⟨esF 0 M, M.length, hmap blk hblk _, hnk, rfl⟩ ?_
        refine W.ret ⟨_, _, _, ?_, Trim.of [5, 6, 25, 26, 27] [0, 1, 2] (by decide) lt3 kp3, i + 1, _, ep' + 1, _, ?_, ?_, by omega, hF2, ?_, rfl⟩
        · omega
        · rw [← gi]; rfl
        · rfl
        · rw [List.map_append, hMi, idealL_succ, List.map_cons, List.map_nil, md_self hlt]
          show _ ++ [((i : Int), (⟨true, z4 i, md (IntKind.i64.wrap ((i : Int) - 1)), md ((i : Int) + 1), md ((i : Int) + 2), md ((i : Int) + 3)⟩ : Mb))] = _
          rw [em1]
          rfl
      · refine W.fa fun blk hblk => ?_
        refine W.callF [1, 2] _ (ok46 (i : Int) (by omega) (by omega)) (by decide) rfl rfl rfl rfl rfl rfl ?_
        have hF2 := hF.add hno hblk ⟨true, z4 i, md (IntKind.i64.wrap ((i : Int) - 1)), md ((i : Int) + 1), md ((i : Int) + 2), md ((i : Int) + 3)⟩
        refine W.exH ((H'.upd blk (.cells (mbD ⟨true, z4 i, md (IntKind.i64.wrap ((i : Int) - 1)), md ((i : Int) + 1), md ((i : Int) + 2), md ((i : Int) + 3)⟩))).upd b (.imap (esF 0 M ++ [(md (i : Int), blk, M.length)]) (M.length + 1))) ⟨esF 0 M, M.length, hmap blk hblk _, hnk, rfl⟩ ?_
        refine W.ret ⟨_, _, _, ?_, Trim.of [5, 6, 25, 26, 27] [0, 1, 2] (by decide) lt3 kp3, i + 1, _, ep' + 1, _, ?_, ?_, by omega, hF2, ?_, rfl⟩
        · omega
        · rw [← gi]; rfl
        · rfl
        · rw [List.map_append, hMi, idealL_succ, List.map_cons, List.map_nil, md_self hlt]
          show _ ++ [((i : Int), (⟨true, z4 i, md (IntKind.i64.wrap ((i : Int) - 1)), md ((i : Int) + 1), md ((i : Int) + 2), md ((i : Int) + 3)⟩ : Mb))] = _
          rw [em1]
          rfl
  · obtain rfl : i = 4 := by omega
    refine W.ite_f rfl ?_
    refine W.ret ?_
    exact W.ret (RetQ.part [0] (by simp) (by intro i hi; obtain rfl := List.mem_singleton.1 hi; exact Nat.succ_pos _) kp1H ⟨r, b, M, ep', H', rfl, rfl, hF, hMi⟩)
end Go.Proofs.Ytddhlmejaobcgaa.Bk
