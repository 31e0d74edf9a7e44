import Derived.Test.YtbjjimllnffcpaaGreatDoorAZ2
set_option maxRecDepth 100000
set_option linter.unusedVariables false
set_option linter.unusedSimpArgs false
/- group.Read of any text. -/
namespace Go.Proofs.YtbjjimllnffcpaaGreatDoor.Gr
open Go Go.Am Va
def od18 : Ords := [(7, [0, 1, 2, 3, 4, 5, 6, 7, 8, 1009, 10, 11, 12, 13, 14, 15, 16, 18, 1017, 19, 20]), (9, [0, 1, 2, 3, 4, 1005, 6])]
theorem code18 : codeB Tryz.f18.ntmps od18 (match Tryz.f18.body with | some c => c | none => .skip) = true := by kernel_rfl
theorem splB_name {a : ByteArray} {l i : Nat} (ha : 46 ∉ a.toList) (hl : l < 1000) (hi : i < 1000) : splB (nameS a l i) = [a, numS l, numS i] := by
  have h := nameS_list a l i
  rw [dl, dl] at h
  rw [dl] at ha
  unfold splB
  rw [h, splL_cut ha, splL_cut (dot_free (numS_dot l hl)), splL_one (dot_free (numS_dot i hi))]
  simp only [List.map_cons, List.map_nil, oB_self]
theorem splL_le : ∀ (l x : List UInt8), x ∈ splL l → x.length ≤ l.length
  | [], x, h => by
    rw [show splL [] = [[]] from rfl] at h
    obtain rfl := List.mem_singleton.1 h
    simp
  | b :: r, x, h => by
    rw [splL_cons] at h
    split at h
    · rcases List.mem_cons.1 h with rfl | h
      · simp
      · have := splL_le r x h
        simp only [List.length_cons]; omega
    · have ih := splL_le r
      cases hy : splL r with
      | nil =>
        rw [hy] at h
        obtain rfl := List.mem_singleton.1 h
        simp
      | cons y ys =>
        rw [hy] at h ih
        rcases List.mem_cons.1 h with rfl | h
        · have := ih y (by simp)
          simp only [List.length_cons]; omega
        · have := ih x (List.mem_cons_of_mem _ h)
          simp only [List.length_cons]; omega
theorem splB_le {s x : ByteArray} (h : x ∈ splB s) : x.size ≤ s.size := by
  unfold splB at h
  obtain ⟨y, hy, rfl⟩ := List.mem_map.1 h
  have := splL_le _ y hy
  rw [oB_size]
  have e : s.data.toList.length = s.size := by rw [Array.length_toList]; rfl
  omega
theorem atE_two (l : List UInt8) : atE l = .lit .nilIface ∨ atE l = .iface 166 (.box [] 0) := by
  unfold atE
  cases Lib.atoiAll l <;> simp
set_option maxHeartbeats 4000000 in
theorem ok18s (s a : ByteArray) (l i : Nat) (n : Int) (hr : RdOk s n a l i) : Go.Am.Pure Tryz.prog 18 [.d (sD s), .d (nI n)] (.tuple [.d (sD a), Dy.iv l i, .d (.lit .nilIface)]) := by
  obtain ⟨h1, h2⟩ := hr.small
  obtain ⟨ha, hg, rfl⟩ := hr
  refine CallOk.of tysOk mixed od18 Tryz.func18 rfl rfl code18 ?_
  have hl : l < 1000 := by omega
  have hi : i < 1000 := by omega
  have hsz := name_size ha
  have s1 := numS_size l
  have s2 := numS_size i
  have hns : (nameS a l i).size ≤ 1000 := by
    have := digI_size l
    unfold nameS
    simp only [ByteArray.size_append]
    have h3 : dotS.size = 1 := rfl
    omega
  have kS := ok42 (nameS a l i) (by omega)
  rw [splB_name (name_dot ha) hl hi] at kS
  have kN := ok43 a
  rw [ha] at kN
  have kG := Dy.ok46 l i n
  rw [hg] at kG
  have kM := ok20 a l i (by omega) hl hi
  have cN : (!((nameS a l i).toList == (nameS a l i).toList)) = false := by rw [beq_self_eq_true]; rfl
  have kA1 := ok45a (numS l) (by omega)
  rw [atV_num l hl, atE_num l hl] at kA1
  have kA2 := ok45a (numS i) (by omega)
  rw [atV_num i hi, atE_num i hi] at kA2
  refine W.pure kS rfl rfl ?_
  repeat (first | refine W.ite_t rfl ?_ | refine W.ite_f rfl ?_)
  refine W.need (ix_ok sC_len (l := [a, numS l, numS i]) (i := 0) (by decide) (by show 0 < 3; decide)) ?_
  repeat (first | refine W.ite_t rfl ?_ | refine W.ite_f rfl ?_)
  refine W.ld (sE (l := [a, numS l, numS i]) (i := 0) rfl) ?_
  repeat (first | refine W.ite_t rfl ?_ | refine W.ite_f rfl ?_)
  refine W.pure kN rfl rfl ?_
  repeat (first | refine W.ite_t rfl ?_ | refine W.ite_f rfl ?_)
  refine W.need (ix_ok sC_len (l := [a, numS l, numS i]) (i := 1) (by decide) (by show 1 < 3; decide)) ?_
  refine W.ld (sE (l := [a, numS l, numS i]) (i := 1) rfl) ?_
  refine W.pure kA1 rfl rfl ?_
  refine W.need (ix_ok sC_len (l := [a, numS l, numS i]) (i := 2) (by decide) (by show 2 < 3; decide)) ?_
  refine W.ld (sE (l := [a, numS l, numS i]) (i := 2) rfl) ?_
  refine W.pure kA2 rfl rfl ?_
  repeat (first | refine W.ite_t rfl ?_ | refine W.ite_f rfl ?_)
  refine W.pure kG rfl rfl ?_
  repeat (first | refine W.ite_t rfl ?_ | refine W.ite_f rfl ?_)
  refine W.need (ix_ok sC_len (l := [a, numS l, numS i]) (i := 0) (by decide) (by show 0 < 3; decide)) ?_
  repeat (first | refine W.ite_t rfl ?_ | refine W.ite_f rfl ?_)
  refine W.ld (sE (l := [a, numS l, numS i]) (i := 0) rfl) ?_
  repeat (first | refine W.ite_t rfl ?_ | refine W.ite_f rfl ?_)
  refine W.pure kM rfl rfl ?_
  repeat (first | refine W.ite_f cN ?_ | refine W.ite_t rfl ?_ | refine W.ite_f rfl ?_)
  refine W.need (ix_ok sC_len (l := [a, numS l, numS i]) (i := 0) (by decide) (by show 0 < 3; decide)) ?_
  refine W.ld (sE (l := [a, numS l, numS i]) (i := 0) rfl) ?_
  exact W.ret (RetQ.pure rfl rfl)
set_option maxHeartbeats 4000000 in
theorem ok18n (s : ByteArray) (hs : s.size ≤ 1000) (n : Int) (hno : ∀ a l i, ¬ RdOk s n a l i) : Go.Am.Pure Tryz.prog 18 [.d (sD s), .d (nI n)] (.tuple [.d (sD (txt [])), Dy.iv 0 0, .d (gfaultE 11)]) := by
  refine CallOk.of tysOk mixed od18 Tryz.func18 rfl rfl code18 ?_
  have kS := ok42 s (by omega)
  have hP : ∀ x ∈ splB s, x.size ≤ s.size := fun x hx => splB_le hx
  generalize splB s = P at kS hP
  refine W.pure kS rfl rfl ?_
  by_cases hl : P.length = 3
  · obtain ⟨p0, p1, p2, rfl⟩ : ∃ p0 p1 p2, P = [p0, p1, p2] := by
      match P, hl with
      | [x, y, z], _ => exact ⟨x, y, z, rfl⟩
    have z1 := hP p1 (by simp)
    have z2 := hP p2 (by simp)
    have kN := ok43 p0
    have kA1 := ok45a p1 (by omega)
    have kA2 := ok45a p2 (by omega)
    have kG := Dy.ok46 (atV p1.data.toList) (atV p2.data.toList) n
    generalize atV p1.data.toList = l at *
    generalize atV p2.data.toList = i at *
    repeat (first | refine W.ite_t rfl ?_ | refine W.ite_f rfl ?_)
    refine W.need (ix_ok sC_len (l := [p0, p1, p2]) (i := 0) (by decide) (by show 0 < 3; decide)) ?_
    repeat (first | refine W.ite_t rfl ?_ | refine W.ite_f rfl ?_)
    refine W.ld (sE (l := [p0, p1, p2]) (i := 0) rfl) ?_
    repeat (first | refine W.ite_t rfl ?_ | refine W.ite_f rfl ?_)
    cases hn : nameOk p0 with
    | false =>
      rw [hn] at kN
      refine W.pure kN rfl rfl ?_
      repeat (first | refine W.ite_t rfl ?_ | refine W.ite_f rfl ?_)
      exact W.pure (ok44 11) rfl rfl (W.ret (RetQ.pure rfl rfl))
    | true =>
      rw [hn] at kN
      have hsz := name_size hn
      refine W.pure kN rfl rfl ?_
      repeat (first | refine W.ite_t rfl ?_ | refine W.ite_f rfl ?_)
      refine W.need (ix_ok sC_len (l := [p0, p1, p2]) (i := 1) (by decide) (by show 1 < 3; decide)) ?_
      refine W.ld (sE (l := [p0, p1, p2]) (i := 1) rfl) ?_
      rcases atE_two p1.data.toList with e1 | e1 <;> rw [e1] at kA1
      · refine W.pure kA1 rfl rfl ?_
        refine W.need (ix_ok sC_len (l := [p0, p1, p2]) (i := 2) (by decide) (by show 2 < 3; decide)) ?_
        refine W.ld (sE (l := [p0, p1, p2]) (i := 2) rfl) ?_
        rcases atE_two p2.data.toList with e2 | e2 <;> rw [e2] at kA2
        · refine W.pure kA2 rfl rfl ?_
          repeat (first | refine W.ite_t rfl ?_ | refine W.ite_f rfl ?_)
          cases hg : Dy.good l i n with
          | false =>
            rw [hg] at kG
            refine W.pure kG rfl rfl ?_
            repeat (first | refine W.ite_t rfl ?_ | refine W.ite_f rfl ?_)
            exact W.pure (ok44 11) rfl rfl (W.ret (RetQ.pure rfl rfl))
          | true =>
            rw [hg] at kG
            obtain ⟨g1, g2, g3, g4, g5, g6⟩ := Dy.good_iff.1 hg
            obtain ⟨l', rfl⟩ := Int.eq_ofNat_of_zero_le g3
            obtain ⟨i', rfl⟩ := Int.eq_ofNat_of_zero_le g5
            have hi' : i' < 256 := by
              have hp : (2 : Int) ^ l' ≤ 2 ^ 8 := by
                have : (2 : Nat) ^ l' ≤ 2 ^ 8 := Nat.pow_le_pow_right (by decide) (by omega)
                exact_mod_cast this
              have h7 : (2 : Int) ^ 8 = 256 := by decide
              rw [Int.toNat_natCast] at g6
              omega
            have kM := ok20 p0 l' i' (by omega) (by omega) (by omega)
            have cN : (!((nameS p0 l' i').toList == s.toList)) = true := by
              cases hc : ((nameS p0 l' i').toList == s.toList) with
              | false => rfl
              | true =>
                refine absurd ⟨hn, hg, ?_⟩ (hno p0 l' i')
                have := eq_of_beq hc
                rw [dl, dl] at this
                exact ByteArray.ext (Array.toList_inj.1 this)
            refine W.pure kG rfl rfl ?_
            repeat (first | refine W.ite_t rfl ?_ | refine W.ite_f rfl ?_)
            refine W.need (ix_ok sC_len (l := [p0, p1, p2]) (i := 0) (by decide) (by show 0 < 3; decide)) ?_
            repeat (first | refine W.ite_t rfl ?_ | refine W.ite_f rfl ?_)
            refine W.ld (sE (l := [p0, p1, p2]) (i := 0) rfl) ?_
            repeat (first | refine W.ite_t rfl ?_ | refine W.ite_f rfl ?_)
            refine W.pure kM rfl rfl ?_
            repeat (first | refine W.ite_t cN ?_ | refine W.ite_t rfl ?_ | refine W.ite_f rfl ?_)
            exact W.pure (ok44 11) rfl rfl (W.ret (RetQ.pure rfl rfl))
        · refine W.pure kA2 rfl rfl ?_
          repeat (first | refine W.ite_t rfl ?_ | refine W.ite_f rfl ?_)
          exact W.pure (ok44 11) rfl rfl (W.ret (RetQ.pure rfl rfl))
      · refine W.pure kA1 rfl rfl ?_
        refine W.need (ix_ok sC_len (l := [p0, p1, p2]) (i := 2) (by decide) (by show 2 < 3; decide)) ?_
        refine W.ld (sE (l := [p0, p1, p2]) (i := 2) rfl) ?_
        rcases atE_two p2.data.toList with e2 | e2 <;> rw [e2] at kA2
        all_goals
          refine W.pure kA2 rfl rfl ?_
          repeat (first | refine W.ite_t rfl ?_ | refine W.ite_f rfl ?_)
          exact W.pure (ok44 11) rfl rfl (W.ret (RetQ.pure rfl rfl))
  · have c1 : (!((P.length : Int) == 3)) = true := by
      rw [Bool.not_eq_true', beq_eq_false_iff_ne]
      omega
    repeat (first | refine W.ite_t c1 ?_ | refine W.ite_t rfl ?_ | refine W.ite_f rfl ?_)
    exact W.pure (ok44 11) rfl rfl (W.ret (RetQ.pure rfl rfl))
end Go.Proofs.YtbjjimllnffcpaaGreatDoor.Gr
