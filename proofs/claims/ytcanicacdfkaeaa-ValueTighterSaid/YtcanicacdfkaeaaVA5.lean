import Derived.Test.YtcanicacdfkaeaaVA4
set_option maxRecDepth 100000
set_option linter.unusedVariables false
set_option linter.unusedSimpArgs false
namespace Go.Proofs.Ytcanicacdfkaeaa.Va
open Go Go.Am
def od4 : Ords := [(6, [1, 2, 3, 5, 6, 7, 8, 0, 4, 1009, 10])]
theorem code4 : codeB Try.f4.ntmps od4 (match Try.f4.body with | some c => c | none => .skip) = true := by kernel_rfl
theorem flt_sub {s : List Att} {f g : List Prd} (h : fltErr s g = none) (hs : List.Sublist f g) (h1 : 1 ≤ f.length) : fltErr s f = none := by
  rw [fltErr_iff] at h ⊢
  have := hs.length_le
  exact ⟨h1, by omega, List.Pairwise.sublist hs h.2.2.1, fun p hp => h.2.2.2 p (hs.subset hp)⟩
theorem flt_rev {s : List Att} {g : List Prd} (h : fltErr s g = none) : fltErr s g.reverse = none := by
  rw [fltErr_iff] at h ⊢
  refine ⟨by simpa using h.1, by simpa using h.2.1, ?_, fun p hp => h.2.2.2 p (by simpa using hp)⟩
  unfold Apart
  rw [List.pairwise_reverse]
  exact h.2.2.1.imp fun h e => h e.symm
theorem match_rev {s : List Att} {g : List Prd} {e : Evt} (h : fltErr s g = none) : matchV s g.reverse e = matchV s g e := by
  rw [Bool.eq_iff_iff, matchV_iff, matchV_iff, h, flt_rev h]
  simp
set_option maxHeartbeats 8000000 in
theorem ok4 (s : List Att) (f0 : List Prd) (e0 : Evt) (i : Int) : Go.Am.Pure Try.prog 4 [slF atC s, slF prC f0, .d (.agg (evC e0)), .d (nI i)] (bI true) := by
  refine CallOk.of tysOk mixed od4 Try.func4 rfl rfl code4 ?_
  refine W.pure (ok8 s) rfl rfl ?_
  refine W.pure (ok9 e0) rfl rfl ?_
  refine W.pure (ok10 f0) rfl rfl ?_
  have hp6 := att6_len s
  have hf6 := prd6_len f0
  generalize att6 s = p at *
  generalize evt6 e0 = e at *
  generalize prd6 f0 = g at *
  refine W.ite (fun c1 => ?_) (fun c1 => ?_)
  · repeat (first | refine W.ite_t rfl ?_ | refine W.ite_f rfl ?_ | refine W.ite_t c1 ?_)
    exact W.pure ok11 rfl rfl (W.ret (RetQ.pure rfl rfl))
  repeat (first | refine W.ite_t rfl ?_ | refine W.ite_f rfl ?_ | refine W.ite_f c1 ?_)
  refine W.ite (fun c2 => ?_) (fun c2 => ?_)
  · repeat (first | refine W.ite_t rfl ?_ | refine W.ite_f rfl ?_ | refine W.ite_f c1 ?_ | refine W.ite_t c2 ?_)
    exact W.pure ok11 rfl rfl (W.ret (RetQ.pure rfl rfl))
  repeat (first | refine W.ite_t rfl ?_ | refine W.ite_f rfl ?_ | refine W.ite_f c1 ?_ | refine W.ite_f c2 ?_)
  refine W.ite (fun c3 => ?_) (fun c3 => ?_)
  · repeat (first | refine W.ite_t rfl ?_ | refine W.ite_f rfl ?_ | refine W.ite_f c1 ?_ | refine W.ite_f c2 ?_ | refine W.ite_t c3 ?_)
    exact W.pure ok11 rfl rfl (W.ret (RetQ.pure rfl rfl))
  repeat (first | refine W.ite_t rfl ?_ | refine W.ite_f rfl ?_ | refine W.ite_f c1 ?_ | refine W.ite_f c2 ?_ | refine W.ite_f c3 ?_)
  have n1 := of_decide_eq_false c1
  have n2 := of_decide_eq_false c2
  have n3 := of_decide_eq_false c3
  have k1 := ok14 p (by omega) g
  cases hg : fltErr p g with
  | some j =>
    rw [hg] at k1
    refine W.pure k1 rfl rfl ?_
    repeat (first | refine W.ite_t rfl ?_ | refine W.ite_f rfl ?_ | refine W.ite_f c1 ?_ | refine W.ite_f c2 ?_ | refine W.ite_f c3 ?_)
    exact W.pure ok11 rfl rfl (W.ret (RetQ.pure rfl rfl))
  | none =>
    rw [hg] at k1
    refine W.pure k1 rfl rfl ?_
    repeat (first | refine W.ite_t rfl ?_ | refine W.ite_f rfl ?_ | refine W.ite_f c1 ?_ | refine W.ite_f c2 ?_ | refine W.ite_f c3 ?_)
    obtain ⟨k, rfl⟩ : ∃ k : Nat, i = k := ⟨i.toNat, by omega⟩
    have w1 : IntKind.i64.wrap ((k : Int) + 1) = ((k + 1 : Nat) : Int) := by rw [wrap64 (by omega) (by omega)]; rfl
    have e1 : ((flat prC g).drop (0 * 5)).take ((k - 0) * 5) = flat prC (g.take k) := by rw [Nat.zero_mul, List.drop_zero, Nat.sub_zero, flat_take prC_len]
    have e2 : ((flat prC g).drop ((IntKind.i64.wrap ((k : Int) + 1)).toNat * 5)).take ((g.length - (IntKind.i64.wrap ((k : Int) + 1)).toNat) * 5) = flat prC (g.drop (k + 1)) := by
      rw [w1, Int.toNat_natCast, flat_drop prC_len]
      have := flat_all prC_len (g.drop (k + 1))
      rw [List.length_drop] at this
      exact this
    refine W.need ⟨by omega, by omega⟩ ?_
    refine W.need ?_ ?_
    · show 0 ≤ IntKind.i64.wrap ((k : Int) + 1) ∧ IntKind.i64.wrap ((k : Int) + 1) ≤ g.length
      omega
    refine W.need ⟨rfl, rfl, ?_, ?_, ?_, ?_⟩ ?_
    · show (k - 0) * 5 = (((flat prC g).drop (0 * 5)).take ((k - 0) * 5)).length
      rw [e1, flat_length prC_len, List.length_take]; congr 1; omega
    · show (0 + (k - 0)) * 56 ≤ _; omega
    · show 0 + (k - 0) ≤ _; omega
    · show ∀ c ∈ ((flat prC g).drop (0 * 5)).take ((k - 0) * 5), c.one = true
      rw [e1]; exact flat_one prC_one _
    refine W.need ⟨rfl, rfl, ?_, ?_, ?_, ?_⟩ ?_
    · show (g.length - (IntKind.i64.wrap ((k : Int) + 1)).toNat) * 5 = (((flat prC g).drop ((IntKind.i64.wrap ((k : Int) + 1)).toNat * 5)).take ((g.length - (IntKind.i64.wrap ((k : Int) + 1)).toNat) * 5)).length
      rw [e2, flat_length prC_len, List.length_drop, w1]; rfl
    · show (0 + (k - 0) + (g.length - (IntKind.i64.wrap ((k : Int) + 1)).toNat)) * 56 ≤ _; omega
    · show 0 + (k - 0) + (g.length - (IntKind.i64.wrap ((k : Int) + 1)).toNat) ≤ _; omega
    · show ∀ c ∈ ((flat prC g).drop ((IntKind.i64.wrap ((k : Int) + 1)).toNat * 5)).take ((g.length - (IntKind.i64.wrap ((k : Int) + 1)).toNat) * 5), c.one = true
      rw [e2]; exact flat_one prC_one _
    have hsub : List.Sublist (g.take k ++ g.drop (k + 1)) g := by
      have := (List.Sublist.refl (g.take k)).append (List.drop_sublist 1 (g.drop k))
      rw [List.take_append_drop, List.drop_drop] at this
      exact this
    have hlen : (g.take k ++ g.drop (k + 1)).length = 0 + (k - 0) + (g.length - (IntKind.i64.wrap ((k : Int) + 1)).toNat) := by
      rw [List.length_append, List.length_take, List.length_drop, w1, Int.toNat_natCast]; omega
    have hcells : flat prC (g.take k ++ g.drop (k + 1)) = [] ++ ((flat prC g).drop (0 * 5)).take ((k - 0) * 5) ++ ((flat prC g).drop ((IntKind.i64.wrap ((k : Int) + 1)).toNat * 5)).take ((g.length - (IntKind.i64.wrap ((k : Int) + 1)).toNat) * 5) := by
      rw [e1, e2, flat_append]; rfl
    have hl1 : 1 ≤ (g.take k ++ g.drop (k + 1)).length := by rw [List.length_append, List.length_take, List.length_drop]; omega
    have hless := flt_sub hg hsub hl1
    have hmono : matchV p g e = true → matchV p (g.take k ++ g.drop (k + 1)) e = true := fun h => by
      rw [matchV_iff] at h ⊢
      exact ⟨hless, h.2.1, fun q hq => h.2.2 q (hsub.subset hq)⟩
    have hll := hsub.length_le
    generalize hL : g.take k ++ g.drop (k + 1) = less at *
    have wl : IntKind.i64.wrap ((g.length : Int) - 1) = (g.length : Int) - 1 := wrap64 (by omega) (by omega)
    have hd0 : (g.drop (g.length - 0)).reverse = [] := by simp
    refine W.loop (fun m fr σ => ∃ j : Nat, fr = [(9, slF atC p), (11, .ptr 1 0), (13, slF prC g), (15, .vec 2 less.length), (16, .vec 3 j), (17, .d (nI ((g.length : Int) - 1 - j)))] ∧ σ = [bD (evC e0), bD (evC e), .vec 5 less.length (flat prC less), .vec 5 j (flat prC (g.drop (g.length - j)).reverse)] ∧ j ≤ g.length ∧ m = g.length - j) g.length
      (Start.of [9, 11, 13, 15, 16, 17] [] (by simp)) ⟨0, by rw [hlen]; show _ = [_, _, _, _, _, (17, AV.d (nI ((g.length : Int) - 1 - (0 : Nat))))]; rw [show (g.length : Int) - 1 - (0 : Nat) = IntKind.i64.wrap ((g.length : Int) - 1) from by rw [wl]; omega]; rfl, by rw [hlen, hcells, hd0]; rfl, by omega, rfl⟩ ?_
    rintro m fr σ ⟨j, rfl, rfl, hj, rfl⟩
    refine W.ite (fun c4 => ?_) (fun c4 => ?_)
    · have h4 := of_decide_eq_true c4
      obtain ⟨x, hx⟩ : ∃ x : Nat, (g.length : Int) - 1 - j = x := ⟨((g.length : Int) - 1 - j).toNat, by omega⟩
      have hxl : x < g.length := by omega
      obtain ⟨q, hq⟩ : ∃ q, g[x]? = some q := ⟨_, List.getElem?_eq_getElem hxl⟩
      rw [hx]
      refine W.need (ix_ok prC_len (by decide) hxl) ?_
      refine W.ld (prE hq) ?_
      refine W.alt_l ?_
      refine W.need ⟨rfl, rfl, rfl, by omega, by omega, prC_one q⟩ ?_
      have hd : (g.drop (g.length - (j + 1))).reverse = (g.drop (g.length - j)).reverse ++ [q] := by
        rw [show g.length - (j + 1) = x from by omega, drop_cons hq, List.reverse_cons, show x + 1 = g.length - j from by omega]
      have wx : IntKind.i64.wrap ((x : Int) - 1) = (g.length : Int) - 1 - ((j + 1 : Nat) : Int) := by rw [wrap64 (by omega) (by omega)]; omega
      refine W.ret ⟨_, _, _, ?_, Trim.of [9, 11, 13, 15, 16, 17] [0, 1, 2, 3] (by decide) (by simp) (by intro z hz; have : z = 0 ∨ z = 1 ∨ z = 2 ∨ z = 3 := (by simp at hz; omega); rcases this with rfl | rfl | rfl | rfl <;> rfl), j + 1, ?_, ?_, by omega, rfl⟩
      · omega
      · rw [← wx]; rfl
      · rw [hd, flat_append]
        show _ = [bD (evC e0), bD (evC e), .vec 5 less.length (flat prC less), .vec 5 (j + 1) (flat prC (g.drop (g.length - j)).reverse ++ (prC q ++ []))]
        rw [List.append_nil]
        rfl
    · have h4 : j = g.length := by have := of_decide_eq_false c4; omega
      subst h4
      rw [Nat.sub_self, List.drop_zero]
      have hr := flat_all prC_len g.reverse
      rw [List.length_reverse] at hr
      have hll2 := flat_all prC_len less
      have argL : AV.d (.sl less.length ((flat prC less).take (less.length * 5))) = slF prC less := by rw [hll2]; rfl
      have argR : AV.d (.sl g.length ((flat prC g.reverse).take (g.length * 5))) = slF prC g.reverse := by rw [hr]; unfold slF; rw [List.length_reverse]
      have k2 := ok12 p (by omega) g e
      have k3 := ok14 p (by omega) less
      have k4 := ok12 p (by omega) less e
      have k5 := ok12 p (by omega) g.reverse e
      rw [hless] at k3
      rw [match_rev hg] at k5
      refine W.ret ?_
      cases hm : matchV p g e with
      | true =>
        rw [hm] at k2 k5
        rw [hmono hm] at k4
        refine W.pure k2 rfl rfl ?_
        refine W.pure ok11 rfl rfl ?_
        repeat (first | refine W.ite_t rfl ?_ | refine W.ite_f rfl ?_)
        refine W.call [] (by decide) (by simp) (by simp) (args' := [slF atC p, slF prC less]) (by rw [← argL]; rfl) rfl k3 ?_
        rintro v s' ⟨rfl, rfl⟩
        repeat (first | refine W.ite_t rfl ?_ | refine W.ite_f rfl ?_)
        refine W.call [] (by decide) (by simp) (by simp) (args' := [slF atC p, slF prC less, .d (.agg (evC e))]) (by rw [← argL]; rfl) rfl k4 ?_
        rintro v s' ⟨rfl, rfl⟩
        repeat (first | refine W.ite_t rfl ?_ | refine W.ite_f rfl ?_)
        refine W.call [] (by decide) (by simp) (by simp) (args' := [slF atC p, slF prC g.reverse, .d (.agg (evC e))]) (by rw [← argR]; rfl) rfl k5 ?_
        rintro v s' ⟨rfl, rfl⟩
        repeat (first | refine W.ite_t rfl ?_ | refine W.ite_f rfl ?_)
        refine W.ret ?_
        exact RetQ.pure rfl rfl
      | false =>
        rw [hm] at k2 k5
        refine W.pure k2 rfl rfl ?_
        refine W.pure ok11 rfl rfl ?_
        repeat (first | refine W.ite_t rfl ?_ | refine W.ite_f rfl ?_)
        refine W.call [] (by decide) (by simp) (by simp) (args' := [slF atC p, slF prC less]) (by rw [← argL]; rfl) rfl k3 ?_
        rintro v s' ⟨rfl, rfl⟩
        repeat (first | refine W.ite_t rfl ?_ | refine W.ite_f rfl ?_)
        refine W.call [] (by decide) (by simp) (by simp) (args' := [slF atC p, slF prC g.reverse, .d (.agg (evC e))]) (by rw [← argR]; rfl) rfl k5 ?_
        rintro v s' ⟨rfl, rfl⟩
        repeat (first | refine W.ite_t rfl ?_ | refine W.ite_f rfl ?_)
        refine W.ret ?_
        exact RetQ.pure rfl rfl
end Go.Proofs.Ytcanicacdfkaeaa.Va
