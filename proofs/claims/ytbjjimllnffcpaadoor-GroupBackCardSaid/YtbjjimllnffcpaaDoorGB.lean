import Derived.Test.YtbjjimllnffcpaaDoorAT
import Derived.Test.YtbjjimllnffcpaaDoorG9
set_option maxRecDepth 100000
set_option linter.unusedVariables false
set_option linter.unusedSimpArgs false
/- Groups' names are read again: the statement GroupBack. -/
namespace Go.Proofs.YtbjjimllnffcpaaDoor.Gr
open Go Go.Am Va
def od21 : Ords := [(7, [0, 1, 2, 3, 4, 5, 6, 7, 8, 1009, 10, 11, 12, 13, 14, 15, 16, 18, 1017, 19, 20]), (9, [0, 1, 2, 3, 4, 1005, 6])]
theorem code21 : codeB Tryd.f21.ntmps od21 (match Tryd.f21.body with | some c => c | none => .skip) = true := by kernel_rfl
def od7 : Ords := [(9, [0, 1, 2, 3, 4, 5, 6, 10, 11, 12, 13, 14, 7, 8, 9, 1015, 16, 17, 18, 19, 20])]
theorem code7 : codeB Tryd.f7.ntmps od7 (match Tryd.f7.body with | some c => c | none => .skip) = true := by kernel_rfl
theorem splB_name {a : ByteArray} {l i : Nat} (ha : 46 ∉ a.toList) (hl : l < 1000) (hi : i < 1000) : splB (nameS a l i) = [a, numS l, numS i] := by
  have h := nameS_list a l i
  rw [dl, dl] at h
  rw [dl] at ha
  unfold splB
  rw [h, splL_cut ha, splL_cut (dot_free (numS_dot l hl)), splL_one (dot_free (numS_dot i hi))]
  simp only [List.map_cons, List.map_nil, oB_self]
theorem nameS_size {a : ByteArray} (l i : Nat) (ha : a.size ≤ 1000) : (nameS a l i).size ≤ 1008 := by
  unfold nameS
  have h1 := numS_size l
  have h2 := numS_size i
  have h3 : dotS.size = 1 := rfl
  simp only [ByteArray.size_append]
  omega
set_option maxHeartbeats 4000000 in
theorem okReadS (a : ByteArray) (l i : Nat) (n : Int) (ha : nameOk a = true) (hg : Dy.good l i n = true) : Go.Am.Pure Tryd.prog 21 [.d (sD (nameS a l i)), .d (nI n)] (.tuple [.d (sD a), Dy.iv l i, .d (.lit .nilIface)]) := by
  refine CallOk.of tysOk mixed od21 Tryd.func21 rfl rfl code21 ?_
  have hsm := good_small hg
  have hl : l < 1000 := by omega
  have hi : i < 1000 := by omega
  have hsz := name_size ha
  have kS := ok39 (nameS a l i) (Nat.le_trans (nameS_size l i (by omega)) (by decide))
  rw [splB_name (name_dot ha) hl hi] at kS
  have kN := ok8 a
  rw [ha] at kN
  have kG := Dy.ok9 l i n
  rw [hg] at kG
  have kM := ok11 a l i (by omega) hl hi
  have cN : (!((nameS a l i).toList == (nameS a l i).toList)) = false := by rw [beq_self_eq_true]; rfl
  refine W.pure kS rfl rfl ?_
  repeat (first | refine W.ite_t rfl ?_ | refine W.ite_f rfl ?_)
  refine W.need (ix_ok sC_len (l := [a, numS l, numS i]) (i := 0) (by decide) (by show 0 < 3; decide)) ?_
  repeat (first | refine W.ite_t rfl ?_ | refine W.ite_f rfl ?_)
  refine W.ld (sE (l := [a, numS l, numS i]) (i := 0) rfl) ?_
  repeat (first | refine W.ite_t rfl ?_ | refine W.ite_f rfl ?_)
  refine W.pure kN rfl rfl ?_
  repeat (first | refine W.ite_t rfl ?_ | refine W.ite_f rfl ?_)
  refine W.need (ix_ok sC_len (l := [a, numS l, numS i]) (i := 1) (by decide) (by show 1 < 3; decide)) ?_
  refine W.ld (sE (l := [a, numS l, numS i]) (i := 1) rfl) ?_
  refine W.pure (okAtoiS l hl) rfl rfl ?_
  refine W.need (ix_ok sC_len (l := [a, numS l, numS i]) (i := 2) (by decide) (by show 2 < 3; decide)) ?_
  refine W.ld (sE (l := [a, numS l, numS i]) (i := 2) rfl) ?_
  refine W.pure (okAtoiS i hi) rfl rfl ?_
  repeat (first | refine W.ite_t rfl ?_ | refine W.ite_f rfl ?_)
  refine W.pure kG rfl rfl ?_
  repeat (first | refine W.ite_t rfl ?_ | refine W.ite_f rfl ?_)
  refine W.need (ix_ok sC_len (l := [a, numS l, numS i]) (i := 0) (by decide) (by show 0 < 3; decide)) ?_
  repeat (first | refine W.ite_t rfl ?_ | refine W.ite_f rfl ?_)
  refine W.ld (sE (l := [a, numS l, numS i]) (i := 0) rfl) ?_
  repeat (first | refine W.ite_t rfl ?_ | refine W.ite_f rfl ?_)
  refine W.pure kM rfl rfl ?_
  repeat (first | refine W.ite_f cN ?_ | refine W.ite_t rfl ?_ | refine W.ite_f rfl ?_)
  refine W.need (ix_ok sC_len (l := [a, numS l, numS i]) (i := 0) (by decide) (by show 0 < 3; decide)) ?_
  refine W.ld (sE (l := [a, numS l, numS i]) (i := 0) rfl) ?_
  exact W.ret (RetQ.pure rfl rfl)
theorem of_toList {a b : ByteArray} (h : a.toList = b.toList) : a = b := by
  rw [dl, dl] at h
  rw [← oB_self a, ← oB_self b, h]
theorem names_at {a : ByteArray} {C : List (Int × Int)} {i : Nat} {p : Int × Int} (h : C[i]? = some p) : (names a C)[i]? = some (nameS a p.1.toNat p.2.toNat) := by
  unfold names
  rw [List.getElem?_map, h]
  rfl
set_option maxHeartbeats 8000000 in
theorem ok7 (s0 : List Att) (f0 : List Prd) (n : Int) : Go.Am.Pure Tryd.prog 7 [slF atC s0, slF prC f0, .d (nI n)] (bI true) := by
  refine CallOk.of tysOk mixed od7 Tryd.func7 rfl rfl code7 ?_
  refine W.pure (ok12 s0) rfl rfl ?_
  refine W.pure (ok13 f0) rfl rfl ?_
  have hp6 := att6_len s0
  have hf6 := prd6_len f0
  have hqm0 : ∀ a ∈ prd6 f0, a.nm.size ≤ 1000 := fun a ha => by
    obtain ⟨b, _, rfl⟩ := List.mem_map.1 ha
    have := cutN_le b.nm 20
    show (cutN b.nm 20).size ≤ 1000
    omega
  generalize att6 s0 = s at *
  generalize prd6 f0 = f at *
  have k1 := ok14 s (by omega) f n
  have k2 := ok19 s (by omega) f hqm0 n
  by_cases hc : chooseE s f n = .ok
  · have hfine := chooseE_ok.1 hc
    obtain ⟨j, q, hj, hjl, hq, hbest⟩ := hfine.best
    have hci : chooseI s f n = j := by unfold chooseI; rw [hc]; exact hj
    have hpq : pickQ s f n = q := by unfold pickQ; rw [hj]; simp [hq]
    have hof : ofL s f n = names q.nm (Dy.cover (rgQ s q n).1 (rgQ s q n).2 n) := by
      unfold ofL
      rw [hc]
      simp only [hpq]
    rw [hc, hci] at k1
    rw [hc, hof] at k2
    have hqm := List.mem_of_getElem? hq
    obtain ⟨k, a, hk, ha, hat, hga, hpo, hsm⟩ := hfine.prd hqm
    have hkl := (List.getElem?_eq_some_iff.1 ha).1
    have hrq : rgQ s q n = rgA a q n := by unfold rgQ; rw [hat]
    have hrg := hfine.rg hqm
    have hn0 := hfine.n0
    have hn8 := hfine.n8
    have hp2 := pow2_le (k := n.toNat) (by omega)
    have hnm : q.nm = a.nm := of_toList (by
      rcases ixF_spec (fun x => sEq x.nm q.nm) s 0 with h | ⟨k', a', h1, h2, h3⟩
      · unfold findA at hk; omega
      · have : k' = k := by unfold findA at hk; omega
        subst this
        rw [ha] at h2
        obtain rfl := Option.some.inj h2
        exact (sEq_iff.1 h3).symm)
    have hnok : nameOk q.nm = true := by rw [hnm]; exact (chk_at hfine.chk ha).1
    have hne : Dy.cover (rgQ s q n).1 (rgQ s q n).2 n ≠ [] := fun h0 => by
      refine Dy.cover_nil h0 ⟨hrg.2.1, Dy.good_iff.2 ⟨hn0, hn8, hn0, Int.le_refl _, hrg.1, ?_⟩, Dy.good_iff.2 ⟨hn0, hn8, hn0, Int.le_refl _, ?_, hrg.2.2⟩⟩
      · omega
      · omega
    have ht := Dy.tiles_of_cover hne
    have hcl := Dy.cover_len (rgQ s q n).1 (rgQ s q n).2 n
    rw [hrq] at ht hcl k2 hrg
    generalize Dy.cover (rgA a q n).1 (rgA a q n).2 n = C at *
    have c0 : decide ((j : Int) < 0) = false := decide_eq_false (by omega)
    have c1 : decide ((j : Int) ≥ f.length) = false := decide_eq_false (by omega)
    refine W.pure k1 rfl rfl ?_
    refine W.pure k2 rfl rfl ?_
    repeat (first | refine W.ite_t rfl ?_ | refine W.ite_f rfl ?_ | refine W.ite_f c0 ?_ | refine W.ite_f c1 ?_)
    refine W.need (ix_ok prC_len (by decide) hjl) ?_
    refine W.ld (prF0 hq) ?_
    refine W.need (ix_ok prC_len (by decide) hjl) ?_
    refine W.ld (prE hq) ?_
    refine W.pure (hk ▸ ok16 s (by omega) q.nm) rfl rfl ?_
    refine W.need (ix_ok atC_len (by decide) hkl) ?_
    refine W.ld (atE ha) ?_
    refine W.pure (Dy.ok15' a q n hsm) rfl rfl ?_
    have hNl : (names q.nm C).length = C.length := names_len q.nm C
    refine W.loop (fun k fr σ => ∃ (i : Nat) (lo : Int), fr = [(2, .d (nI n)), (9, slF prC f), (11, .d (nI j)), (15, .d (nI lo)), (16, .d (nI (rgA a q n).2)), (91, slS (names q.nm C)), (92, .d (nI C.length)), (93, .d (nI i))] ∧ σ = [] ∧ i ≤ C.length ∧ Dy.Tiles n lo (C.drop i) ((rgA a q n).2 + 1) ∧ k = C.length - i) C.length
      (Start.of [2, 9, 11, 15, 16, 91, 92, 93] [] (by simp)) ⟨0, (rgA a q n).1, by rw [← hNl]; rfl, rfl, by omega, ht, rfl⟩ ?_
    rintro k fr σ ⟨i, lo, rfl, rfl, hi, hT, rfl⟩
    by_cases hlt : i < C.length
    · obtain ⟨p, hp⟩ : ∃ x, C[i]? = some x := ⟨_, List.getElem?_eq_getElem hlt⟩
      have hdr : C.drop i = p :: C.drop (i + 1) := by
        rw [List.drop_eq_getElem_cons hlt]
        rw [List.getElem?_eq_getElem hlt] at hp
        rw [Option.some.inj hp]
      rw [hdr] at hT
      obtain ⟨hgd, hlo, hT'⟩ := hT
      have hsm' := good_small hgd
      have hle := Dy.cells_le hgd
      have ep1 : ((p.1.toNat : Nat) : Int) = p.1 := by omega
      have ep2 : ((p.2.toNat : Nat) : Int) = p.2 := by omega
      have kR := okReadS q.nm p.1.toNat p.2.toNat n hnok (by rw [ep1, ep2]; exact hgd)
      have kC := Dy.ok22 ((p.1.toNat : Nat) : Int) ((p.2.toNat : Nat) : Int) n
      rw [ep1, ep2] at kC
      rw [show Dy.iv ((p.1.toNat : Nat) : Int) ((p.2.toNat : Nat) : Int) = Dy.iv p.1 p.2 by rw [ep1, ep2]] at kR
      have d1 : (!(q.nm.toList == q.nm.toList)) = false := by rw [beq_self_eq_true]; rfl
      have d2 : ((Dy.cells p.1 p.2 n).1 != lo) = false := by rw [hlo]; simp
      have d3 : decide ((Dy.cells p.1 p.2 n).2 < (Dy.cells p.1 p.2 n).1) = false := decide_eq_false (by omega)
      have g1 : IntKind.i64.wrap ((i : Int) + 1) = ((i + 1 : Nat) : Int) := by rw [wrap64 (by omega) (by omega)]; rfl
      have g2 : IntKind.i64.wrap ((Dy.cells p.1 p.2 n).2 + 1) = (Dy.cells p.1 p.2 n).2 + 1 := wrap64 (by omega) (by omega)
      refine W.ite_t (decide_eq_true (by omega)) ?_
      refine W.need (ix_ok sC_len (by decide) (by omega)) ?_
      refine W.ld (sE (names_at hp)) ?_
      refine W.pure kR rfl rfl ?_
      refine W.pure kC rfl rfl ?_
      repeat (first | refine W.ite_t rfl ?_ | refine W.ite_f rfl ?_)
      refine W.need (ix_ok prC_len (by decide) hjl) ?_
      repeat (first | refine W.ite_t rfl ?_ | refine W.ite_f rfl ?_)
      refine W.ld (prF0 hq) ?_
      repeat (first | refine W.ite_f d1 ?_ | refine W.ite_f d2 ?_ | refine W.ite_f d3 ?_ | refine W.ite_t rfl ?_ | refine W.ite_f rfl ?_)
      refine W.ret ⟨_, _, _, ?_, Trim.of [2, 9, 11, 15, 16, 91, 92, 93] [] (by decide) (by simp) (by simp), i + 1, (Dy.cells p.1 p.2 n).2 + 1, ?_, rfl, by omega, hT', rfl⟩
      · omega
      · rw [g2, ← g1]; rfl
    · have hlast : i = C.length := by omega
      subst hlast
      rw [List.drop_length] at hT
      have hT : lo = (rgA a q n).2 + 1 := hT
      refine W.ite_f (decide_eq_false (by omega)) ?_
      refine W.ret ?_
      refine W.pure ok10 rfl rfl ?_
      have g2 : IntKind.i64.wrap ((rgA a q n).2 + 1) = (rgA a q n).2 + 1 := wrap64 (by omega) (by omega)
      repeat (first | refine W.ite_t rfl ?_ | refine W.ite_f rfl ?_)
      refine W.ret (RetQ.pure rfl (ret_bI ?_))
      rw [g2, hT]
      exact beq_self_eq_true _
  · rw [choose_bad hc] at k1
    have hof : ofL s f n = [] := by
      unfold ofL
      cases hce : chooseE s f n with
      | ok => exact absurd hce hc
      | arg => rfl
      | val i => rfl
    rw [hof] at k2
    have he : ∀ {g : GE}, chooseE s f n = g → g ≠ .ok → ∃ t d, geD g = .iface t d := fun {g} _ h => by
      cases g with
      | ok => exact absurd rfl h
      | arg => exact ⟨_, _, rfl⟩
      | val i => exact ⟨_, _, rfl⟩
    obtain ⟨t, d, ht⟩ := he rfl hc
    rw [ht] at k1 k2
    refine W.pure k1 rfl rfl ?_
    refine W.pure k2 rfl rfl ?_
    repeat (first | refine W.ite_t rfl ?_ | refine W.ite_f rfl ?_)
    refine W.pure ok10 rfl rfl ?_
    repeat (first | refine W.ite_t rfl ?_ | refine W.ite_f rfl ?_)
    exact W.ret (RetQ.pure rfl rfl)
end Go.Proofs.YtbjjimllnffcpaaDoor.Gr
