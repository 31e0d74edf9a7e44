import Derived.Test.YtemabpapfkplgaaDoorBC
set_option maxRecDepth 100000
set_option linter.unusedVariables false
set_option linter.unusedSimpArgs false
/- Package bag: all packets to an address leave. -/
namespace Go.Proofs.YtemabpapfkplgaaDoor.Bg
open Go Go.Am
def od24 : Ords := []
theorem code24 : codeB Tryd.f24.ntmps od24 (match Tryd.f24.body with | some c => c | none => .skip) = true := by kernel_rfl
def od14 : Ords := []
theorem code14 : codeB Tryd.f14.ntmps od14 (match Tryd.f14.body with | some c => c | none => .skip) = true := by kernel_rfl
theorem Elem.shift {cs xs : List D} {ks : List CK} {off n : Nat} (hn : ks.length = n) (h : Elem cs ks off n xs) (A : List D) : Elem (A ++ cs) ks (A.length + off) n xs := by
  subst hn
  have key := formed_shift (cs := A ++ cs) (ds := cs) (off := A.length + off) (k := off) ks 0 fun q hq => by
    simp only [rdD, List.getD_eq_getElem?_getD]
    rw [show A.length + off + 0 + q = A.length + (off + 0 + q) from by omega, List.getElem?_append_right (by omega)]
    congr 2
    omega
  simp only [Nat.add_zero] at key
  exact ⟨⟨by have := h.ok.1; simp; omega, key.2 h.ok.2⟩, by rw [key.1, h.eq]⟩
def rest (t : Pk → Bool) (l : List Pk) : List Pk := l.filter fun p => !t p
theorem rest_take {t : Pk → Bool} {l : List Pk} {q : Nat} {p : Pk} (h : l[q]? = some p) : rest t (l.take (q + 1)) = if t p = true then rest t (l.take q) else rest t (l.take q) ++ [p] := by
  unfold rest
  rw [List.take_add_one, h, List.filter_append]
  by_cases hp : t p = true
  · rw [if_pos hp]; simp [hp]
  · have hp' : t p = false := by simpa using hp
    rw [if_neg hp]; simp [hp']
theorem rest_le (t : Pk → Bool) (l : List Pk) : (rest t l).length ≤ l.length := List.length_filter_le _ _
theorem rest_all {t : Pk → Bool} {l : List Pk} (h : ∀ p ∈ l, t p = false) : rest t l = l := by
  unfold rest
  rw [List.filter_eq_self]
  intro p hp
  rw [h p hp]
  rfl
set_option maxHeartbeats 8000000 in
theorem ok24 (f : FuncId) (t : Pk → Bool) (x : Int) (H : ∀ p, CallOk Tryd.prog f [.d (.agg (pkC p)), .ptr 0 0] [.var [.d (nI x)]] (fun v s => v = bI (t p) ∧ s = [.var [.d (nI x)]])) (e : Nat) (l : List Pk) (hl : l.length ≤ 1000000) (j : List D) :
    CallOk Tryd.prog 24 [.row 0 e 0 l.length, .fn f [.ptr 1 0]] [rowS e l j, .var [.d (nI x)]] (fun v s => v = .row 0 e 0 (rest t l).length ∧ ∃ j', s = [rowS e (rest t l) j', .var [.d (nI x)]]) := by
  refine CallOk.of tysOk mixed od24 Tryd.func24 rfl rfl code24 ?_
  have ki := ok31 f t x H e l hl j
  rcases ixD_spec t l 0 with ⟨h1, h2⟩ | ⟨i, p0, h1, h2, h3, h4⟩
  · rw [h1] at ki
    refine W.callF [0, 1] [rowS e l j, .var [.d (nI x)]] ki (by decide) rfl rfl rfl rfl rfl rfl ?_
    refine W.ite_t rfl ?_
    refine W.ret (RetQ.part [0, 1] (by decide) (by simp) keep2 ⟨?_, j, ?_⟩)
    · rw [rest_all h2]; rfl
    · rw [rest_all h2]; rfl
  rw [Nat.zero_add] at h1
  rw [h1] at ki
  have hil := (List.getElem?_eq_some_iff.1 h2).1
  refine W.callF [0, 1] [rowS e l j, .var [.d (nI x)]] ki (by decide) rfl rfl rfl rfl rfl rfl ?_
  have c0 : ((i : Int) == -1) = false := by rw [beq_int]; exact decide_eq_false (by omega)
  refine W.ite_f c0 ?_
  have g1 : IntKind.i64.wrap ((i : Int) + 1) = ((i + 1 : Nat) : Int) := by rw [wrap64 (by omega) (by omega)]; rfl
  have hti : rest t (l.take i) = l.take i := rest_all fun p hp => by
    obtain ⟨m, hm, hmp⟩ := List.mem_iff_getElem.1 hp
    have hm' : m < i := by rw [List.length_take] at hm; omega
    refine h4 m p hm' ?_
    rw [List.getElem?_eq_getElem (by omega), ← hmp, List.getElem_take]
  refine W.loop (fun k fr σ => ∃ (q : Nat) (X : List D), fr = [(0, .row 0 e 0 l.length), (1, .fn f [.ptr 1 0]), (5, .d (nI (rest t (l.take q)).length)), (6, .d (nI q))] ∧ σ = [.row 4 e (flat pkC (rest t (l.take q)) ++ (X ++ (flat pkC (l.drop q) ++ j))), .var [.d (nI x)]] ∧ X.length = (q - (rest t (l.take q)).length) * 4 ∧ (rest t (l.take q)).length < q ∧ q ≤ l.length ∧ k = l.length - q) (l.length - (i + 1))
    (Start.of [0, 1, 5, 6] [] (by simp)) ⟨i + 1, pkC p0, ?_, ?_, ?_, ?_, by omega, rfl⟩ ?_
  · rw [rest_take h2, if_pos h3, hti, List.length_take, Nat.min_eq_left (by omega), ← g1]; rfl
  · rw [rest_take h2, if_pos h3, hti]
    have : flat pkC l = flat pkC (l.take i) ++ (pkC p0 ++ flat pkC (l.drop (i + 1))) := by
      rw [← flat, ← flat_append, ← drop_pk h2, List.take_append_drop]
    show [Blk.row 4 e (flat pkC l ++ j), _] = _
    rw [this]
    simp only [List.append_assoc]
  · rw [rest_take h2, if_pos h3, hti, List.length_take, Nat.min_eq_left (by omega), pkC_len]; omega
  · rw [rest_take h2, if_pos h3, hti, List.length_take, Nat.min_eq_left (by omega)]; omega
  rintro k fr σ ⟨q, X, rfl, rfl, hX, hw, hq, rfl⟩
  have hcl : (flat pkC (rest t (l.take q)) ++ (X ++ (flat pkC (l.drop q) ++ j))).length = l.length * 4 + j.length := by
    simp only [List.length_append, pk_flat, hX, List.length_drop]; omega
  refine W.ite (fun d1 => ?_) (fun d1 => ?_)
  · have hql : q < l.length := by have := of_decide_eq_true d1; omega
    obtain ⟨p, hp⟩ : ∃ x, l[q]? = some x := ⟨_, List.getElem?_eq_getElem hql⟩
    have hr := rest_take (t := t) hp
    have hd := drop_pk hp
    have he : Elem (flat pkC (rest t (l.take q)) ++ (X ++ (flat pkC (l.drop q) ++ j))) [.int .i64, .int .i64, .int .i64, .str] (0 + q * 4) 4 (pkC p) := by
      have k1 : Elem (flat pkC (l.drop q) ++ j) [.int .i64, .int .i64, .int .i64, .str] (0 + 0 * 4) 4 (pkC p) := pkE (by rw [hd]; rfl) j
      have k2 := Elem.shift rfl (Elem.shift rfl k1 X) (flat pkC (rest t (l.take q)))
      rw [show (flat pkC (rest t (l.take q))).length + (X.length + (0 + 0 * 4)) = 0 + q * 4 from by rw [pk_flat, hX]; omega] at k2
      exact k2
    have g2 : IntKind.i64.wrap ((q : Int) + 1) = ((q + 1 : Nat) : Int) := by rw [wrap64 (by omega) (by omega)]; rfl
    refine W.cond_t (be e) ?_
    refine W.need ⟨by omega, by omega⟩ ?_
    refine W.cond_t (be e) ?_
    refine W.ld he ?_
    refine W.callF [1] [.row 4 e (flat pkC (rest t (l.take q)) ++ (X ++ (flat pkC (l.drop q) ++ j))), .var [.d (nI x)], .var [.d (nI p.id), .d (nI p.fr), .d (nI p.to), .d (sD p.tx)]] (H p) (by decide) rfl rfl rfl rfl rfl rfl ?_
    by_cases ht : t p = true
    · have c1 : (!t p) = false := by rw [ht]; rfl
      rw [if_pos ht] at hr
      refine W.ite_f c1 ?_
      refine W.ret ⟨_, _, _, ?_, Trim.of [0, 1, 5, 6] [0, 1] (by decide) (by simp) keep2, q + 1, X ++ pkC p, ?_, ?_, ?_, ?_, by omega, rfl⟩
      · omega
      · rw [hr, ← g2]; rfl
      · rw [hr]
        show [Blk.row 4 e (flat pkC (rest t (l.take q)) ++ (X ++ (flat pkC (l.drop q) ++ j))), _] = _
        rw [hd, flat]
        simp only [List.append_assoc]
        rfl
      · rw [hr, List.length_append, hX, pkC_len]; omega
      · rw [hr]; omega
    · have ht' : t p = false := by simpa using ht
      have c1 : (!t p) = true := by rw [ht']; rfl
      rw [if_neg ht] at hr
      have hrl : (rest t (l.take (q + 1))).length = (rest t (l.take q)).length + 1 := by rw [hr]; simp
      have g3 : IntKind.i64.wrap (((rest t (l.take q)).length : Int) + 1) = ((rest t (l.take (q + 1))).length : Int) := by rw [hrl, wrap64 (by omega) (by omega)]; rfl
      refine W.ite_t c1 ?_
      refine W.cond_t (be e) ?_
      refine W.need ⟨by omega, by omega⟩ ?_
      refine W.cond_t (by show (true && Nat.beq e e) = true; simp) ?_
      refine W.need (by rw [hcl]; show 0 + (rest t (l.take q)).length * 4 + 4 ≤ _; omega) ?_
      refine W.ret ⟨_, _, _, ?_, Trim.of [0, 1, 5, 6] [0, 1] (by decide) (by simp) keep2, q + 1, X.drop 4 ++ pkC p, ?_, ?_, ?_, ?_, by omega, rfl⟩
      · omega
      · rw [← g3, ← g2]; rfl
      · refine congrArg (fun y => [Blk.row 4 e y, _]) ?_
        show (flat pkC (rest t (l.take q)) ++ (X ++ (flat pkC (l.drop q) ++ j))).take (0 + (rest t (l.take q)).length * 4) ++ pkC p ++ (flat pkC (rest t (l.take q)) ++ (X ++ (flat pkC (l.drop q) ++ j))).drop (0 + (rest t (l.take q)).length * 4 + 4) = _
        have hkl := pk_flat (rest t (l.take q))
        rw [Nat.zero_add, List.take_left' hkl, ← List.drop_drop, List.drop_left' hkl, List.drop_append_of_le_length (by rw [hX]; omega), hr, flat_append, hd]
        simp only [flat, List.append_nil, List.append_assoc]
      · rw [hrl, List.length_append, List.length_drop, hX, pkC_len]; omega
      · rw [hrl]; omega
  · have hql : q = l.length := by have := of_decide_eq_false d1; omega
    subst hql
    have hR : rest t (l.take l.length) = rest t l := by rw [List.take_length]
    have hdr : flat pkC (l.drop l.length) = [] := by rw [List.drop_length]; rfl
    rw [hR, hdr, List.nil_append] at hcl
    rw [hR, hdr, List.nil_append]
    rw [hR] at hX hw
    have hkl := pk_flat (rest t l)
    refine W.ret ?_
    refine W.cond_t (b := Nat.beq 4 4 && Nat.beq e e) (be e) ?_
    refine W.need (by rw [hcl]; omega) ?_
    refine W.need ⟨by omega, by omega⟩ ?_
    refine W.cond_t (by simp) ?_
    refine W.need (by rw [hcl]; show 0 + (rest t l).length * 4 + (l.length - (rest t l).length) * 4 ≤ _; omega) ?_
    have hz : ((flat pkC (rest t l) ++ (X ++ j)).take (0 + (rest t l).length * 4) ++ (List.replicate (l.length - (rest t l).length) (pkC pk0)).flatten ++ (flat pkC (rest t l) ++ (X ++ j)).drop (0 + (rest t l).length * 4 + (l.length - (rest t l).length) * 4)) = flat pkC (rest t l) ++ ((List.replicate (l.length - (rest t l).length) (pkC pk0)).flatten ++ j) := by
      rw [Nat.zero_add, List.take_left' hkl, ← List.drop_drop, List.drop_left' hkl, List.drop_left' hX, List.append_assoc]
    have hzl : (flat pkC (rest t l) ++ ((List.replicate (l.length - (rest t l).length) (pkC pk0)).flatten ++ j)).length = l.length * 4 + j.length := by
      have : ((List.replicate (l.length - (rest t l).length) (pkC pk0)).flatten).length = (l.length - (rest t l).length) * 4 := by
        rw [List.length_flatten, List.map_replicate, List.sum_replicate_nat, pkC_len]
      simp only [List.length_append, hkl, this]; omega
    refine W.cond_t (be e) ?_
    refine W.need ?_ ?_
    · show 0 + l.length * 4 ≤ ((flat pkC (rest t l) ++ (X ++ j)).take (0 + (rest t l).length * 4) ++ (List.replicate (l.length - (rest t l).length) (pkC pk0)).flatten ++ (flat pkC (rest t l) ++ (X ++ j)).drop (0 + (rest t l).length * 4 + (l.length - (rest t l).length) * 4)).length
      rw [hz, hzl]; omega
    refine W.need ⟨by omega, ?_⟩ ?_
    · show ((rest t l).length : Int) ≤ ((((flat pkC (rest t l) ++ (X ++ j)).take (0 + (rest t l).length * 4) ++ (List.replicate (l.length - (rest t l).length) (pkC pk0)).flatten ++ (flat pkC (rest t l) ++ (X ++ j)).drop (0 + (rest t l).length * 4 + (l.length - (rest t l).length) * 4)).length - 0) / 4 : Nat)
      rw [hz, hzl]; omega
    refine W.ret (RetQ.part [0, 1] (by decide) (by simp) keep2 ⟨rfl, (List.replicate (l.length - (rest t l).length) (pkC pk0)).flatten ++ j, ?_⟩)
    refine congrArg (fun y => [Blk.row 4 e y, _]) ?_
    exact hz
theorem ok14 (b : B) (x : Int) (hl : b.l.length ≤ 1000000) : CallOk Tryd.prog 14 [.ptr 1 0, .d (nI x)] (bS b) (fun v s => v = .d (nI ((b.l.length : Int) - ((rest (fun p => p.to == x) b.l).length : Int))) ∧ ∃ j', s = bS ⟨b.n, rest (fun p => p.to == x) b.l, b.e, j'⟩) := by
  refine CallOk.of tysOk mixed od14 Tryd.func14 rfl rfl code14 ?_
  have hr := rest_le (fun p => p.to == x) b.l
  refine W.callT [0, 2] (ok24 25 (fun p => p.to == x) x (fun p => ok25 p x) b.e b.l hl b.j) (by decide) rfl rfl rfl rfl ?_
  rintro v s ⟨rfl, j', rfl⟩
  refine W.ret (RetQ.part [0, 1] (by decide) (by show ∀ i ∈ [0, 1], i < 3; simp) keep2 ⟨?_, j', rfl⟩)
  show AV.d (nI (IntKind.i64.wrap ((b.l.length : Int) - ((rest (fun p => p.to == x) b.l).length : Int)))) = _
  rw [wrap64 (by omega) (by omega)]
end Go.Proofs.YtemabpapfkplgaaDoor.Bg
