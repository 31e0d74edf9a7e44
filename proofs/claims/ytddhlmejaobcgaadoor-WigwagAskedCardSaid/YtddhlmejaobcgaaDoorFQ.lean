import Derived.Test.YtddhlmejaobcgaaDoorFP
import Derived.Test.YtddhlmejaobcgaaDoorIV
import Derived.Test.YtddhlmejaobcgaaDoorVV
set_option maxRecDepth 100000
set_option linter.unusedVariables false
set_option linter.unusedSimpArgs false
/- Filters printed. -/
namespace Go.Proofs.YtddhlmejaobcgaaDoor.Va
open Go Go.Am
def od18 : Ords := [(10, [0, 1, 2, 3, 4, 5, 9, 10, 6, 7, 8, 11, 12, 13, 14]), (12, [0, 1, 2, 3, 4, 5, 6, 7, 8, 9]), (8, [0, 1, 2, 3, 4, 5, 6, 7, 8, 9])]
theorem code18 : codeB Tryd.f18.ntmps od18 (match Tryd.f18.body with | some c => c | none => .skip) = true := by kernel_rfl
theorem txt_app (a b : List UInt8) : txt a ++ txt b = txt (a ++ b) := by
  apply ByteArray.ext
  show (txt a ++ txt b).data = (a ++ b).toArray
  rw [ByteArray.data_append]
  simp [txt]
theorem txt_data (s : ByteArray) : txt s.data.toList = s := by
  apply ByteArray.ext
  show s.data.toList.toArray = s.data
  simp
theorem txt_size (l : List UInt8) : (txt l).size = l.length := by show l.toArray.size = _; simp
def andW : List UInt8 := [32, 97, 110, 100, 32]
/-- A predicate, a filter as a text. -/
def prP (p : Prd) : List UInt8 := p.nm.data.toList ++
  (if p.o = 1 then [32, 105, 110, 32] ++ Lib.itoa p.lo ++ [46, 46] ++ Lib.itoa p.hi
   else if p.o = 2 then [32, 61, 32] ++ quo p.str.data.toList else [32, 94, 61, 32] ++ quo p.str.data.toList)
def prF : List Prd → List UInt8
  | [] => []
  | [p] => prP p
  | p :: q :: r => prP p ++ (andW ++ prF (q :: r))
theorem prF_snoc (p : Prd) : ∀ l : List Prd, l ≠ [] → prF (l ++ [p]) = prF l ++ (andW ++ prP p)
  | [], h => absurd rfl h
  | [q], _ => rfl
  | q :: x :: r, _ => by
    show prP q ++ (andW ++ prF (x :: r ++ [p])) = prP q ++ (andW ++ prF (x :: r)) ++ (andW ++ prP p)
    rw [prF_snoc p (x :: r) (by simp)]
    simp only [List.append_assoc]
/-- What is asked of a predicate that is printed. -/
def prOk (p : Prd) : Prop := p.nm.size ≤ 1000 ∧ p.str.size ≤ 1000 ∧ (-9223372036854775808 ≤ p.lo ∧ p.lo ≤ 9223372036854775807) ∧ (-9223372036854775808 ≤ p.hi ∧ p.hi ≤ 9223372036854775807)
theorem itoa_len {n : Int} (h : -9223372036854775808 ≤ n ∧ n ≤ 9223372036854775807) : (Lib.itoa n).length ≤ 20 := by
  have key : ∀ u : Nat, u ≤ 9223372036854775808 → (Lib.decDigits u).length ≤ 19 := fun u hu => by
    rw [Lib.decDigits_length]
    by_cases h0 : u < 10
    · rw [Lib.nDigits_small h0]; omega
    · exact (nD_bounds (by omega) (by omega)).2.1
  unfold Lib.itoa
  split
  · simp only [List.length_cons]
    have := key n.natAbs (by omega)
    omega
  · have := key n.toNat (by omega)
    omega
theorem quo_len (s : ByteArray) : (quo s.data.toList).length ≤ 2 * s.size + 2 := by
  have := esc_len s.data.toList
  have e : s.data.toList.length = s.size := by rw [Array.length_toList]; rfl
  simp only [quo, List.length_cons, List.length_append, List.length_nil]
  omega
theorem prP_len {p : Prd} (h : prOk p) : (prP p).length ≤ 4000 := by
  obtain ⟨h1, h2, h3, h4⟩ := h
  have e : p.nm.data.toList.length = p.nm.size := by rw [Array.length_toList]; rfl
  have a := itoa_len h3
  have b := itoa_len h4
  have c := quo_len p.str
  unfold prP
  rw [List.length_append]
  split
  · simp only [List.length_append, List.length_cons, List.length_nil]; omega
  · split <;> (simp only [List.length_append, List.length_cons, List.length_nil]; omega)
theorem prF_take {f : List Prd} {i : Nat} {p : Prd} (h : f[i]? = some p) : prF (f.take (i + 1)) = if i = 0 then prP p else prF (f.take i) ++ (andW ++ prP p) := by
  rw [take_next2 h]
  by_cases h0 : i = 0
  · rw [if_pos h0, h0]; rfl
  · rw [if_neg h0]
    have hl := (List.getElem?_eq_some_iff.1 h).1
    refine prF_snoc p _ fun e => ?_
    have := congrArg List.length e
    rw [List.length_take] at this
    have h1 : min i f.length = 0 := this
    omega
theorem prF_len {f : List Prd} (hf : ∀ p ∈ f, prOk p) : ∀ i, i ≤ f.length → (prF (f.take i)).length ≤ 4010 * i
  | 0, _ => by simp [prF]
  | i + 1, h => by
    have ih := prF_len hf i (by omega)
    obtain ⟨p, hp⟩ : ∃ p, f[i]? = some p := ⟨_, List.getElem?_eq_getElem (by omega)⟩
    have := prP_len (hf p (List.mem_of_getElem? hp))
    rw [prF_take hp]
    split
    · omega
    · simp only [List.length_append, andW, List.length_cons, List.length_nil]; omega
theorem sA {a b : ByteArray} {A B : Nat} (ha : a.size ≤ A) (hb : b.size ≤ B) : (a ++ b).size ≤ A + B := by rw [ByteArray.size_append]; omega
theorem maxI' : IntKind.i64.max = 9223372036854775807 := by decide
theorem sz2 {a b : ByteArray} {A B : Nat} (ha : a.size ≤ A) (hb : b.size ≤ B) (h : A + B ≤ 9000000000) : ((a.size + b.size : Nat) : Int) ≤ IntKind.i64.max := by rw [maxI']; omega
set_option maxHeartbeats 8000000 in
theorem ok18 (f : List Prd) (hl : f.length ≤ 1000) (hf : ∀ p ∈ f, prOk p) : Go.Am.Pure Tryd.prog 18 [slF prC f] (.d (sD (txt (prF f)))) := by
  refine CallOk.of tysOk mixed od18 Tryd.func18 rfl rfl code18 ?_
  refine W.loop (fun k fr σ => ∃ i : Nat, fr = [(0, slF prC f), (3, .d (sD (txt (prF (f.take i))))), (6, slF prC f), (7, .d (nI f.length)), (8, .d (nI i))] ∧ σ = [] ∧ i ≤ f.length ∧ k = f.length - i) f.length
    (Start.of [0, 3, 6, 7, 8] [] (by simp)) ⟨0, rfl, rfl, by omega, rfl⟩ ?_
  rintro k fr σ ⟨i, rfl, rfl, hi, rfl⟩
  refine W.ite (fun c1 => ?_) (fun c1 => ?_)
  · have hil : i < f.length := by have := of_decide_eq_true c1; omega
    obtain ⟨p, hp⟩ : ∃ p, f[i]? = some p := ⟨_, List.getElem?_eq_getElem hil⟩
    have hok := hf p (List.mem_of_getElem? hp)
    have hL := prF_len hf i (by omega)
    have hP := prP_len hok
    obtain ⟨h1, h2, h3, h4⟩ := hok
    have g1 : IntKind.i64.wrap ((i : Int) + 1) = ((i + 1 : Nat) : Int) := by rw [wrap64 (by omega) (by omega)]; rfl
    have kLo := ok40i p.lo h3.1 h3.2
    have kHi := ok40i p.hi h4.1 h4.2
    have kQ := ok41 p.str (by omega)
    have eLo : itS p.lo = txt (Lib.itoa p.lo) := rfl
    have eHi : itS p.hi = txt (Lib.itoa p.hi) := rfl
    have lLo := itoa_len h3
    have lHi := itoa_len h4
    have lQ := quo_len p.str
    have hnx := prF_take hp
    have hnm : txt p.nm.data.toList = p.nm := txt_data p.nm
    have hnl : p.nm.data.toList.length = p.nm.size := by rw [Array.length_toList]; rfl
    refine W.need (ix_ok prC_len (by decide) hil) ?_
    refine W.ld (prE hp) ?_
    have zA : (txt (prF (f.take i))).size ≤ 5000000 := by rw [txt_size]; omega
    have zLo : (itS p.lo).size ≤ 20 := by rw [eLo, txt_size]; exact lLo
    have zHi : (itS p.hi).size ≤ 20 := by rw [eHi, txt_size]; exact lHi
    have zQ : (txt (quo p.str.data.toList)).size ≤ 3000 := by rw [txt_size]; omega
    have eN : p.nm = txt p.nm.data.toList := hnm.symm
    generalize hN : p.nm.data.toList = N at *
    have fin1 : p.o = 1 → ((p.nm ++ txt [32, 105, 110, 32]) ++ itS p.lo ++ txt [46, 46]) ++ itS p.hi = txt (prP p) := fun ho => by
      rw [eLo, eHi, eN]
      simp only [txt_app]
      unfold prP
      rw [if_pos ho, hN]
      simp only [List.append_assoc]
    have fin2 : p.o = 2 → (p.nm ++ txt [32, 61, 32]) ++ txt (quo p.str.data.toList) = txt (prP p) := fun ho => by
      rw [eN]
      simp only [txt_app]
      unfold prP
      rw [if_neg (by omega), if_pos ho, hN]
      simp only [List.append_assoc]
    have fin3 : ¬ p.o = 1 → ¬ p.o = 2 → (p.nm ++ txt [32, 94, 61, 32]) ++ txt (quo p.str.data.toList) = txt (prP p) := fun h1 h2 => by
      rw [eN]
      simp only [txt_app]
      unfold prP
      rw [if_neg h1, if_neg h2, hN]
      simp only [List.append_assoc]
    by_cases hi0 : i = 0
    · skip
      have d0 : decide ((i : Int) > 0) = false := decide_eq_false (by omega)
      refine W.ite_f d0 ?_
      by_cases o1 : p.o = 1
      · have e1 : (p.o == 1) = true := by rw [beq_iff_eq]; exact o1
        refine W.ite_t e1 ?_
        refine W.need (sz2 h1 (by decide : _ ≤ 10) (by decide)) ?_
        refine W.pure kLo rfl rfl ?_
        refine W.need (sz2 (sA h1 (by decide : _ ≤ 10)) zLo (by decide)) ?_
        refine W.need (sz2 (sA (sA h1 (by decide : _ ≤ 10)) zLo) (by decide : _ ≤ 10) (by decide)) ?_
        refine W.pure kHi rfl rfl ?_
        refine W.need (sz2 (sA (sA (sA h1 (by decide : _ ≤ 10)) zLo) (by decide : _ ≤ 10)) zHi (by decide)) ?_
        refine W.need (sz2 zA (sA (sA (sA (sA h1 (by decide : _ ≤ 10)) zLo) (by decide : _ ≤ 10)) zHi) (by decide)) ?_
        have hfin : txt (prF (f.take i)) ++ (((p.nm ++ txt [32, 105, 110, 32]) ++ itS p.lo ++ txt [46, 46]) ++ itS p.hi) = txt (prF (f.take (i + 1))) := by
          rw [fin1 o1, hnx]
          rw [if_pos hi0, hi0]
          exact (txt_app [] (prP p)).trans rfl
        refine W.ret ⟨_, _, _, ?_, Trim.of [0, 3, 6, 7, 8] [] (by decide) (by simp) (by simp), i + 1, ?_, rfl, by omega, rfl⟩
        · omega
        · rw [← hfin, ← g1]; rfl
      have e1 : (p.o == 1) = false := by rw [beq_eq_false_iff_ne]; exact o1
      by_cases o2 : p.o = 2
      · have e2 : (p.o == 2) = true := by rw [beq_iff_eq]; exact o2
        refine W.ite_f e1 ?_
        refine W.ite_t e2 ?_
        refine W.need (sz2 h1 (by decide : _ ≤ 10) (by decide)) ?_
        refine W.pure kQ rfl rfl ?_
        refine W.need (sz2 (sA h1 (by decide : _ ≤ 10)) zQ (by decide)) ?_
        refine W.need (sz2 zA (sA (sA h1 (by decide : _ ≤ 10)) zQ) (by decide)) ?_
        have hfin : txt (prF (f.take i)) ++ ((p.nm ++ txt [32, 61, 32]) ++ txt (quo p.str.data.toList)) = txt (prF (f.take (i + 1))) := by
          rw [fin2 o2, hnx]
          rw [if_pos hi0, hi0]
          exact (txt_app [] (prP p)).trans rfl
        refine W.ret ⟨_, _, _, ?_, Trim.of [0, 3, 6, 7, 8] [] (by decide) (by simp) (by simp), i + 1, ?_, rfl, by omega, rfl⟩
        · omega
        · rw [← hfin, ← g1]; rfl
      have e2 : (p.o == 2) = false := by rw [beq_eq_false_iff_ne]; exact o2
      refine W.ite_f e1 ?_
      refine W.ite_f e2 ?_
      refine W.need (sz2 h1 (by decide : _ ≤ 10) (by decide)) ?_
      refine W.pure kQ rfl rfl ?_
      refine W.need (sz2 (sA h1 (by decide : _ ≤ 10)) zQ (by decide)) ?_
      refine W.need (sz2 zA (sA (sA h1 (by decide : _ ≤ 10)) zQ) (by decide)) ?_
      have hfin : txt (prF (f.take i)) ++ ((p.nm ++ txt [32, 94, 61, 32]) ++ txt (quo p.str.data.toList)) = txt (prF (f.take (i + 1))) := by
        rw [fin3 o1 o2, hnx]
        rw [if_pos hi0, hi0]
        exact (txt_app [] (prP p)).trans rfl
      refine W.ret ⟨_, _, _, ?_, Trim.of [0, 3, 6, 7, 8] [] (by decide) (by simp) (by simp), i + 1, ?_, rfl, by omega, rfl⟩
      · omega
      · rw [← hfin, ← g1]; rfl
    · skip
      have d0 : decide ((i : Int) > 0) = true := decide_eq_true (by omega)
      refine W.ite_t d0 ?_
      refine W.need (sz2 zA (by decide : _ ≤ 10) (by decide)) ?_
      by_cases o1 : p.o = 1
      · have e1 : (p.o == 1) = true := by rw [beq_iff_eq]; exact o1
        refine W.ite_t e1 ?_
        refine W.need (sz2 h1 (by decide : _ ≤ 10) (by decide)) ?_
        refine W.pure kLo rfl rfl ?_
        refine W.need (sz2 (sA h1 (by decide : _ ≤ 10)) zLo (by decide)) ?_
        refine W.need (sz2 (sA (sA h1 (by decide : _ ≤ 10)) zLo) (by decide : _ ≤ 10) (by decide)) ?_
        refine W.pure kHi rfl rfl ?_
        refine W.need (sz2 (sA (sA (sA h1 (by decide : _ ≤ 10)) zLo) (by decide : _ ≤ 10)) zHi (by decide)) ?_
        refine W.need (sz2 (sA zA (show (txt andW).size ≤ 10 by decide)) (sA (sA (sA (sA h1 (by decide : _ ≤ 10)) zLo) (by decide : _ ≤ 10)) zHi) (by decide)) ?_
        have hfin : (txt (prF (f.take i)) ++ txt andW) ++ (((p.nm ++ txt [32, 105, 110, 32]) ++ itS p.lo ++ txt [46, 46]) ++ itS p.hi) = txt (prF (f.take (i + 1))) := by
          rw [fin1 o1, hnx]
          rw [if_neg hi0, txt_app, txt_app, List.append_assoc]
        refine W.ret ⟨_, _, _, ?_, Trim.of [0, 3, 6, 7, 8] [] (by decide) (by simp) (by simp), i + 1, ?_, rfl, by omega, rfl⟩
        · omega
        · rw [← hfin, ← g1]; rfl
      have e1 : (p.o == 1) = false := by rw [beq_eq_false_iff_ne]; exact o1
      by_cases o2 : p.o = 2
      · have e2 : (p.o == 2) = true := by rw [beq_iff_eq]; exact o2
        refine W.ite_f e1 ?_
        refine W.ite_t e2 ?_
        refine W.need (sz2 h1 (by decide : _ ≤ 10) (by decide)) ?_
        refine W.pure kQ rfl rfl ?_
        refine W.need (sz2 (sA h1 (by decide : _ ≤ 10)) zQ (by decide)) ?_
        refine W.need (sz2 (sA zA (show (txt andW).size ≤ 10 by decide)) (sA (sA h1 (by decide : _ ≤ 10)) zQ) (by decide)) ?_
        have hfin : (txt (prF (f.take i)) ++ txt andW) ++ ((p.nm ++ txt [32, 61, 32]) ++ txt (quo p.str.data.toList)) = txt (prF (f.take (i + 1))) := by
          rw [fin2 o2, hnx]
          rw [if_neg hi0, txt_app, txt_app, List.append_assoc]
        refine W.ret ⟨_, _, _, ?_, Trim.of [0, 3, 6, 7, 8] [] (by decide) (by simp) (by simp), i + 1, ?_, rfl, by omega, rfl⟩
        · omega
        · rw [← hfin, ← g1]; rfl
      have e2 : (p.o == 2) = false := by rw [beq_eq_false_iff_ne]; exact o2
      refine W.ite_f e1 ?_
      refine W.ite_f e2 ?_
      refine W.need (sz2 h1 (by decide : _ ≤ 10) (by decide)) ?_
      refine W.pure kQ rfl rfl ?_
      refine W.need (sz2 (sA h1 (by decide : _ ≤ 10)) zQ (by decide)) ?_
      refine W.need (sz2 (sA zA (show (txt andW).size ≤ 10 by decide)) (sA (sA h1 (by decide : _ ≤ 10)) zQ) (by decide)) ?_
      have hfin : (txt (prF (f.take i)) ++ txt andW) ++ ((p.nm ++ txt [32, 94, 61, 32]) ++ txt (quo p.str.data.toList)) = txt (prF (f.take (i + 1))) := by
        rw [fin3 o1 o2, hnx]
        rw [if_neg hi0, txt_app, txt_app, List.append_assoc]
      refine W.ret ⟨_, _, _, ?_, Trim.of [0, 3, 6, 7, 8] [] (by decide) (by simp) (by simp), i + 1, ?_, rfl, by omega, rfl⟩
      · omega
      · rw [← hfin, ← g1]; rfl
  · have hil : i = f.length := by have := of_decide_eq_false c1; omega
    rw [hil, List.take_length]
    exact W.ret (W.ret (RetQ.pure rfl rfl))
end Go.Proofs.YtddhlmejaobcgaaDoor.Va

set_option maxRecDepth 100000
set_option linter.unusedVariables false
set_option linter.unusedSimpArgs false
/- Numerals as the parser of filters reads them. -/
namespace Go.Proofs.YtddhlmejaobcgaaDoor.Va
open Go Go.Am
theorem dig_one (v : Nat) (h : v < 10) : isDig (UInt8.ofNat (48 + v)) = true ∧ (UInt8.ofNat (48 + v)).toNat - 48 = v ∧ (1 ≤ v → UInt8.ofNat (48 + v) ≠ 48) := by
  revert v; decide
theorem dec_facts (u : Nat) : (∀ x ∈ Lib.decDigits u, isDig x = true) ∧ vald (Lib.decDigits u) = u ∧ ∃ c w, Lib.decDigits u = c :: w ∧ (1 ≤ u → c ≠ 48) ∧ (0 < w.length → 10 ≤ u) := by
  induction u using Nat.strongRecOn with
  | _ u ih =>
    rw [Lib.decDigits]
    by_cases hu : u < 10
    · rw [dif_pos hu]
      obtain ⟨h1, h2, h3⟩ := dig_one u hu
      refine ⟨fun x hx => ?_, ?_, _, [], rfl, h3, fun h => absurd h (by decide)⟩
      · obtain rfl := List.mem_singleton.1 hx; exact h1
      · show vald ([] ++ [_]) = u
        rw [vald_snoc, h2]; simp [vald]
    · rw [dif_neg hu]
      obtain ⟨i1, i2, c, w, i3, i4, i5⟩ := ih (u / 10) (by omega)
      obtain ⟨h1, h2, h3⟩ := dig_one (u % 10) (by omega)
      refine ⟨fun x hx => ?_, ?_, c, w ++ [UInt8.ofNat (48 + u % 10)], ?_, fun _ => i4 (by omega), fun _ => by omega⟩
      · rcases List.mem_append.1 hx with hx | hx
        · exact i1 x hx
        · obtain rfl := List.mem_singleton.1 hx; exact h1
      · rw [vald_snoc, h2, i2]; omega
      · rw [i3]; rfl
theorem dec_len10 {u : Nat} (h : u ≤ 9999999999) : (Lib.decDigits u).length ≤ 10 := by
  rw [Lib.decDigits_length]
  by_cases h0 : u < 10
  · rw [Lib.nDigits_small h0]; omega
  · have hb := nD_bounds (u := u) (by omega) (by omega)
    have : 10 ^ (Lib.nDigits u - 1) < 10 ^ 10 := Nat.lt_of_le_of_lt hb.2.2.1 (by omega)
    have := (Nat.pow_lt_pow_iff_right (by decide)).1 this
    omega
theorem itoa_split (n : Int) (h : -9999999999 ≤ n ∧ n ≤ 9999999999) : ∃ (neg : Bool) (c : UInt8) (w : List UInt8), Lib.itoa n = sgW neg (c :: w) ∧ (∀ x ∈ c :: w, isDig x = true) ∧ (c :: w).length ≤ 10 ∧ false = (decide (0 < w.length) && (c == 48)) ∧ (neg = true → vald (c :: w) ≠ 0) ∧ sgV neg (c :: w) = n := by
  have key : ∀ u : Nat, u ≤ 9999999999 → ∃ (c : UInt8) (w : List UInt8), Lib.decDigits u = c :: w ∧ (∀ x ∈ c :: w, isDig x = true) ∧ (c :: w).length ≤ 10 ∧ false = (decide (0 < w.length) && (c == 48)) ∧ vald (c :: w) = u := fun u hu => by
    obtain ⟨h1, h2, c, w, h3, h4, h5⟩ := dec_facts u
    have h6 := dec_len10 hu
    rw [h3] at h1 h2 h6
    refine ⟨c, w, h3, h1, h6, ?_, h2⟩
    by_cases hw : 0 < w.length
    · have := h4 (by have := h5 hw; omega)
      rw [beq_eq_false_iff_ne.2 this, Bool.and_false]
    · rw [decide_eq_false hw]; rfl
  unfold Lib.itoa
  by_cases hn : n < 0
  · rw [if_pos hn]
    obtain ⟨c, w, k1, k2, k3, k4, k5⟩ := key n.natAbs (by omega)
    refine ⟨true, c, w, by rw [k1]; rfl, k2, k3, k4, fun _ => by rw [k5]; omega, ?_⟩
    unfold sgV
    rw [if_pos rfl, k5]; omega
  · rw [if_neg hn]
    obtain ⟨c, w, k1, k2, k3, k4, k5⟩ := key n.toNat (by omega)
    refine ⟨false, c, w, by rw [k1]; rfl, k2, k3, k4, (fun h => Bool.noConfusion h), ?_⟩
    unfold sgV
    rw [if_neg (by decide), k5]; omega
end Go.Proofs.YtddhlmejaobcgaaDoor.Va

set_option maxRecDepth 100000
set_option linter.unusedVariables false
set_option linter.unusedSimpArgs false
/- The parser of filters: a predicate that was printed. -/
namespace Go.Proofs.YtddhlmejaobcgaaDoor.Va
open Go Go.Am
def od29 : Ords := [(9, [0, 1, 2, 3, 4, 5, 6, 7, 8, 9, 10, 11, 12, 13, 14, 15, 16, 17, 18, 19, 20, 21, 22]), (12, [0, 1, 2, 3, 4, 5, 6, 7, 8, 9, 10, 11, 12, 13, 14, 15, 16, 17, 18, 19, 20, 21, 22])]
theorem code29 : codeB Tryd.f29.ntmps od29 (match Tryd.f29.body with | some c => c | none => .skip) = true := by kernel_rfl
/-- A predicate that is read as it was printed. -/
structure Rd (p : Prd) (c : UInt8) (w : List UInt8) : Prop where
  nm : p.nm = txt (c :: w)
  c : isLet c = true
  w : ∀ x ∈ w, wdC x = true
  num : p.o = 1 → p.str = txt [] ∧ (-9999999999 ≤ p.lo ∧ p.lo ≤ 9999999999) ∧ (-9999999999 ≤ p.hi ∧ p.hi ≤ 9999999999)
  tex : p.o ≠ 1 → (p.o = 2 ∨ p.o = 3) ∧ p.lo = 0 ∧ p.hi = 0 ∧ (∀ x ∈ p.str.data.toList, prn x) ∧ p.str.size ≤ 1000
theorem txt_toList (l : List UInt8) : (txt l).data.toList = l := by show l.toArray.toList = l; simp
theorem At.len {s : ByteArray} {a : Nat} {l r : List UInt8} (h : At s a (l ++ r)) : a + l.length ≤ s.size := (At.app l h).le
/-- What follows a predicate: nothing, or a blank. -/
def endR2 : List UInt8 → Prop
  | [] => True
  | c :: _ => c = 32
theorem endR2.dg {r : List UInt8} (h : endR2 r) : noDg r := by
  cases r with
  | nil => trivial
  | cons c r => obtain rfl : c = 32 := h; show isDig 32 = false; decide
set_option maxHeartbeats 16000000 in
theorem ok29 (s : ByteArray) (n : Nat) {a : Nat} {p : Prd} {c : UInt8} {w r : List UInt8} (h : At s a (List.replicate n 32 ++ (prP p ++ r))) (hp : Rd p c w) (hr : endR2 r) (hs : s.size ≤ 1000000) :
    CallOk Tryd.prog 29 [.ptr 0 0] (pS s a (-1)) (fun v σ => v = .d (.agg (prC p)) ∧ σ = pS s ((a + n + (prP p).length : Nat) : Int) (-1)) := by
  refine CallOk.of tysOk mixed od29 Tryd.func29 rfl rfl code29 ?_
  obtain ⟨nm, o, lo, hi, str⟩ := p
  obtain ⟨e1, hc, hw, hnum, htex⟩ := hp
  dsimp only at e1 hnum htex
  subst e1
  have hlen : a + n + (prP ⟨txt (c :: w), o, lo, hi, str⟩).length ≤ s.size := by
    have := At.len (At.app _ h); rwa [List.length_replicate] at this
  by_cases ho : o = 1
  · subst ho
    obtain ⟨rfl, hlo, hhi⟩ := hnum rfl
    obtain ⟨n1, c1, w1, i1, i2, i3, i4, i5, i6⟩ := itoa_split lo hlo
    obtain ⟨n2, c2, w2, j1, j2, j3, j4, j5, j6⟩ := itoa_split hi hhi
    have eP : prP ⟨txt (c :: w), 1, lo, hi, txt []⟩ = (c :: w) ++ ([32] ++ ([105, 110] ++ ([32] ++ (sgW n1 (c1 :: w1) ++ ([46, 46] ++ sgW n2 (c2 :: w2)))))) := by
      unfold prP
      rw [txt_toList, if_pos rfl]
      show _ ++ ([32, 105, 110, 32] ++ Lib.itoa lo ++ [46, 46] ++ Lib.itoa hi) = _
      rw [i1, j1]
      simp [List.append_assoc]
    rw [eP] at h hlen ⊢
    simp only [List.append_assoc] at h
    have A1 := h
    have k1 := ok31 s n (c := c) (w := w) (r := [32] ++ ([105, 110] ++ ([32] ++ (sgW n1 (c1 :: w1) ++ ([46, 46] ++ (sgW n2 (c2 :: w2) ++ r)))))) A1 hc hw ⟨by decide, by decide⟩ hs
    have A2 := At.app _ (At.app _ A1)
    rw [List.length_replicate] at A2
    have k2 := ok30 s 1 (r := [105, 110] ++ ([32] ++ (sgW n1 (c1 :: w1) ++ ([46, 46] ++ (sgW n2 (c2 :: w2) ++ r))))) A2 (by show (105 : UInt8) ≠ 32; decide) hs
    have A3 := At.app _ A2
    have k3 := ok31 s 0 (c := 105) (w := [110]) (r := [32] ++ (sgW n1 (c1 :: w1) ++ ([46, 46] ++ (sgW n2 (c2 :: w2) ++ r)))) A3 (by decide) (by decide) ⟨by decide, by decide⟩ hs
    have A4 := At.app _ A3
    have k4 := ok49 s 1 n1 (c := c1) (w' := w1) (r := [46, 46] ++ (sgW n2 (c2 :: w2) ++ r)) A4 i2 i3 (by show isDig 46 = false; decide) false i4 i5 hs
    have A5 := At.app _ (At.app [32] A4)
    have k5 := ok47 s 0 (m := [46, 46]) (r := sgW n2 (c2 :: w2) ++ r) A5 (by show (46 : UInt8) ≠ 32; decide) hs
    have A6 := At.app _ A5
    have k6 := ok49 s 0 n2 (c := c2) (w' := w2) (r := r) A6 j2 j3 hr.dg false j4 j5 hs
    rw [i6] at k4
    rw [j6] at k6
    simp only [Bool.false_eq_true, if_false] at k4 k6
    have hl := hlen
    simp only [List.length_append, List.length_cons, List.length_nil] at hl
    obtain ⟨b1, b2, b3⟩ := At.cons (show At s (a + n + (c :: w).length + 1) (105 :: _) from A3)
    have x1 : decide (((a + n + (c :: w).length + 1 : Nat) : Int) < (s.size : Int)) = true := decide_eq_true (by omega)
    have d61 : (((s.data.getD (a + n + (c :: w).length + 1) 0).toNat : Int) == 61) = false := by rw [b2]; rfl
    have d94 : (((s.data.getD (a + n + (c :: w).length + 1) 0).toNat : Int) == 94) = false := by rw [b2]; rfl
    have dIn : (!((txt [105, 110]).toList == (txt [105, 110]).toList)) = false := by rw [beq_self_eq_true]; rfl
    refine W.callF [0] _ k1 (by decide) rfl rfl rfl rfl rfl rfl ?_
    refine W.callF [0] _ k2 (by decide) rfl rfl rfl rfl rfl rfl ?_
    repeat (first | refine W.ite_t rfl ?_ | refine W.ite_f rfl ?_ | refine W.ite_t x1 ?_ | refine W.ite_f d61 ?_ | refine W.ite_f d94 ?_ | refine W.need ⟨by omega, by omega⟩ ?_)
    refine W.callF [0] _ k3 (by decide) rfl rfl rfl rfl rfl rfl ?_
    refine W.ite_f dIn ?_
    refine W.callF [0] _ k4 (by decide) rfl rfl rfl rfl rfl rfl ?_
    refine W.callF [0] _ k5 (by decide) rfl rfl rfl rfl rfl rfl ?_
    refine W.callF [0] _ k6 (by decide) rfl rfl rfl rfl rfl rfl ?_
    refine W.ret (RetQ.part [0] (by decide) (by show ∀ i ∈ [0], i < 3; simp) pk1 ⟨rfl, ?_⟩)
    have hpos : a + n + (c :: w).length + 1 + 0 + ([110].length + 1) + 1 + (sgW n1 (c1 :: w1)).length + 0 + [46, 46].length + 0 + (sgW n2 (c2 :: w2)).length = a + n + ((c :: w) ++ ([32] ++ ([105, 110] ++ ([32] ++ (sgW n1 (c1 :: w1) ++ ([46, 46] ++ sgW n2 (c2 :: w2))))))).length := by
      simp only [List.length_append, List.length_cons, List.length_nil]
      omega
    exact congrArg (fun q : Nat => pS s (q : Int) (-1)) hpos
  · obtain ⟨ho2, rfl, rfl, hpr, hsz⟩ := htex ho
    have hsl : str.data.toList.length ≤ 1000000 := by rw [Array.length_toList]; have : str.data.size = str.size := rfl; omega
    have hstr := txt_data str
    generalize str.data.toList = t at *
    subst hstr
    by_cases h2 : o = 2
    · subst h2
      have eP : prP ⟨txt (c :: w), 2, 0, 0, txt t⟩ = (c :: w) ++ ([32] ++ ([61] ++ ([32] ++ quo t))) := by
        unfold prP
        rw [txt_toList, if_neg (show ¬ (2 : Int) = 1 by decide), if_pos rfl]
        show _ ++ ([32, 61, 32] ++ quo (txt t).data.toList) = _
        rw [txt_toList]
        simp [List.append_assoc]
      rw [eP] at h hlen ⊢
      simp only [List.append_assoc] at h
      have k1 := ok31 s n (c := c) (w := w) (r := [32] ++ ([61] ++ ([32] ++ (quo t ++ r)))) h hc hw ⟨by decide, by decide⟩ hs
      have A2 := At.app _ (At.app _ h)
      rw [List.length_replicate] at A2
      have k2 := ok30 s 1 (r := [61] ++ ([32] ++ (quo t ++ r))) A2 (by show (61 : UInt8) ≠ 32; decide) hs
      have A3 := At.app _ A2
      have k3 := ok47 s 0 (m := [61]) (r := [32] ++ (quo t ++ r)) A3 (by show (61 : UInt8) ≠ 32; decide) hs
      have A4 := At.app _ A3
      have k4 := ok48 s 1 (t := t) (r := r) A4 hpr hs hsl
      have hl := hlen
      simp only [List.length_append, List.length_cons, List.length_nil] at hl
      obtain ⟨b1, b2, b3⟩ := At.cons (show At s (a + n + (c :: w).length + 1) (61 :: _) from A3)
      have x1 : decide (((a + n + (c :: w).length + 1 : Nat) : Int) < (s.size : Int)) = true := decide_eq_true (by omega)
      have d61 : (((s.data.getD (a + n + (c :: w).length + 1) 0).toNat : Int) == 61) = true := by rw [b2]; rfl
      refine W.callF [0] _ k1 (by decide) rfl rfl rfl rfl rfl rfl ?_
      refine W.callF [0] _ k2 (by decide) rfl rfl rfl rfl rfl rfl ?_
      repeat (first | refine W.ite_t rfl ?_ | refine W.ite_f rfl ?_ | refine W.ite_t x1 ?_ | refine W.ite_t d61 ?_ | refine W.need ⟨by omega, by omega⟩ ?_)
      refine W.callF [0] _ k3 (by decide) rfl rfl rfl rfl rfl rfl ?_
      refine W.callF [0] _ k4 (by decide) rfl rfl rfl rfl rfl rfl ?_
      refine W.ret (RetQ.part [0] (by decide) (by show ∀ i ∈ [0], i < 3; simp) pk1 ⟨rfl, ?_⟩)
      have hpos : a + n + (c :: w).length + 1 + 0 + [61].length + 1 + (quo t).length = a + n + ((c :: w) ++ ([32] ++ ([61] ++ ([32] ++ quo t)))).length := by
        simp only [List.length_append, List.length_cons, List.length_nil]
        omega
      exact congrArg (fun q : Nat => pS s (q : Int) (-1)) hpos
    · obtain rfl : o = 3 := by rcases ho2 with h | h; exact absurd h h2; exact h
      have eP : prP ⟨txt (c :: w), 3, 0, 0, txt t⟩ = (c :: w) ++ ([32] ++ ([94, 61] ++ ([32] ++ quo t))) := by
        unfold prP
        rw [txt_toList, if_neg (show ¬ (3 : Int) = 1 by decide), if_neg (show ¬ (3 : Int) = 2 by decide)]
        show _ ++ ([32, 94, 61, 32] ++ quo (txt t).data.toList) = _
        rw [txt_toList]
        simp [List.append_assoc]
      rw [eP] at h hlen ⊢
      simp only [List.append_assoc] at h
      have k1 := ok31 s n (c := c) (w := w) (r := [32] ++ ([94, 61] ++ ([32] ++ (quo t ++ r)))) h hc hw ⟨by decide, by decide⟩ hs
      have A2 := At.app _ (At.app _ h)
      rw [List.length_replicate] at A2
      have k2 := ok30 s 1 (r := [94, 61] ++ ([32] ++ (quo t ++ r))) A2 (by show (94 : UInt8) ≠ 32; decide) hs
      have A3 := At.app _ A2
      have k3 := ok47 s 0 (m := [94, 61]) (r := [32] ++ (quo t ++ r)) A3 (by show (94 : UInt8) ≠ 32; decide) hs
      have A4 := At.app _ A3
      have k4 := ok48 s 1 (t := t) (r := r) A4 hpr hs hsl
      have hl := hlen
      simp only [List.length_append, List.length_cons, List.length_nil] at hl
      obtain ⟨b1, b2, b3⟩ := At.cons (show At s (a + n + (c :: w).length + 1) (94 :: _) from A3)
      have x1 : decide (((a + n + (c :: w).length + 1 : Nat) : Int) < (s.size : Int)) = true := decide_eq_true (by omega)
      have d61 : (((s.data.getD (a + n + (c :: w).length + 1) 0).toNat : Int) == 61) = false := by rw [b2]; rfl
      have d94 : (((s.data.getD (a + n + (c :: w).length + 1) 0).toNat : Int) == 94) = true := by rw [b2]; rfl
      refine W.callF [0] _ k1 (by decide) rfl rfl rfl rfl rfl rfl ?_
      refine W.callF [0] _ k2 (by decide) rfl rfl rfl rfl rfl rfl ?_
      repeat (first | refine W.ite_t rfl ?_ | refine W.ite_f rfl ?_ | refine W.ite_t x1 ?_ | refine W.ite_f d61 ?_ | refine W.ite_t d94 ?_ | refine W.need ⟨by omega, by omega⟩ ?_)
      refine W.callF [0] _ k3 (by decide) rfl rfl rfl rfl rfl rfl ?_
      refine W.callF [0] _ k4 (by decide) rfl rfl rfl rfl rfl rfl ?_
      refine W.ret (RetQ.part [0] (by decide) (by show ∀ i ∈ [0], i < 3; simp) pk1 ⟨rfl, ?_⟩)
      have hpos : a + n + (c :: w).length + 1 + 0 + [94, 61].length + 1 + (quo t).length = a + n + ((c :: w) ++ ([32] ++ ([94, 61] ++ ([32] ++ quo t)))).length := by
        simp only [List.length_append, List.length_cons, List.length_nil]
        omega
      exact congrArg (fun q : Nat => pS s (q : Int) (-1)) hpos
end Go.Proofs.YtddhlmejaobcgaaDoor.Va

set_option maxRecDepth 100000
set_option linter.unusedVariables false
set_option linter.unusedSimpArgs false
/- A filter that was printed is read. -/
namespace Go.Proofs.YtddhlmejaobcgaaDoor.Va
open Go Go.Am
def od15 : Ords := [(13, [0, 1, 2, 3, 4, 5, 8, 1006, 7, 9])]
theorem code15 : codeB Tryd.f15.ntmps od15 (match Tryd.f15.body with | some c => c | none => .skip) = true := by kernel_rfl
set_option maxHeartbeats 16000000 in
theorem ok15 (f : List Prd) (hf0 : f ≠ []) (hf : ∀ p ∈ f, ∃ c w, Rd p c w) (hs3 : (prF f).length ≤ 300) (hl : f.length ≤ 1000) :
    Go.Am.Pure Tryd.prog 15 [.d (sD (txt (prF f)))] (.tuple [slF prC f, .d (.lit .nilIface)]) := by
  refine CallOk.of tysOk mixed od15 Tryd.func15 rfl rfl code15 ?_
  have hsz : (txt (prF f)).size ≤ 300 := by rw [txt_size]; exact hs3
  have hA0 : At (txt (prF f)) 0 (List.replicate 0 32 ++ prF (f.drop 0)) := At.all _
  have c0 : decide (((txt (prF f)).size : Int) > 300) = false := decide_eq_false (by omega)
  generalize txt (prF f) = s at *
  refine W.ite_f c0 ?_
  refine W.loop (fun k fr σ => ∃ (j a m : Nat), fr = [(0, .d (sD s)), (4, .ptr 0 0), (5, .vec 1 j)] ∧ σ = pS s (a : Int) (-1) ++ [.vec 5 j (flat prC (f.take j))] ∧ j < f.length ∧ At s a (List.replicate m 32 ++ prF (f.drop j)) ∧ k = f.length - j) f.length
    (Start.of [0, 4] [(5, 5)] (by intro p hp; obtain rfl := List.mem_singleton.1 hp; rfl)) ⟨0, 0, 0, rfl, rfl, ?LT, hA0, rfl⟩ ?_
  case LT => cases f with
    | nil => exact absurd rfl hf0
    | cons x r => simp
  rintro k fr σ ⟨j, a, m, rfl, rfl, hj, hA, rfl⟩
  obtain ⟨p, hp⟩ : ∃ p, f[j]? = some p := ⟨_, List.getElem?_eq_getElem hj⟩
  obtain ⟨c, w, hrd⟩ := hf p (List.mem_of_getElem? hp)
  have hd := drop_cons2 hp
  have hnx : f.take (j + 1) = f.take j ++ [p] := take_next2 hp
  have hone := prC_one p
  have hfl : (flat prC (f.take j)).length = j * 5 := by rw [flat_length prC_len, List.length_take]; congr 1; omega
  have hflat : flat prC (f.take (j + 1)) = flat prC (f.take j) ++ prC p := by rw [hnx, flat_append]; simp [flat]
  rw [hd] at hA
  refine W.ite_t rfl ?_
  cases hrest : f.drop (j + 1) with
  | nil =>
    rw [hrest] at hA
    have hjl : j + 1 = f.length := by
      have := congrArg List.length hrest
      rw [List.length_drop] at this
      have h0 : f.length - (j + 1) = 0 := this
      omega
    have A1 : At s a (List.replicate m 32 ++ (prP p ++ [])) := by rw [List.append_nil]; exact hA
    have k1 := ok29 s m A1 hrd trivial (by omega)
    have A2 := At.app _ (At.app _ A1)
    rw [List.length_replicate] at A2
    have k2 := ok30 s 0 (r := []) A2 trivial (by omega)
    have e := At.nil A2
    have x1 : (((a + m + (prP p).length + 0 : Nat) : Int) == (s.size : Int)) = true := by rw [beq_iff_eq]; omega
    refine W.callF [0] _ k1 (by decide) rfl rfl rfl rfl rfl rfl ?_
    refine W.alt_l ?_
    refine W.need ⟨rfl, rfl, rfl, by omega, by omega, hone⟩ ?_
    refine W.callF [0] _ k2 (by decide) rfl rfl rfl rfl rfl rfl ?_
    repeat (first | refine W.ite_t rfl ?_ | refine W.ite_f rfl ?_ | refine W.ite_t x1 ?_)
    refine W.ret (W.ret (RetQ.part [] (by decide) (by simp) (by simp) ⟨?_, rfl⟩))
    show AV.tuple [.d (.sl (j + 1) ((flat prC (f.take j) ++ prC p).take ((j + 1) * 5))), .d (.lit .nilIface)] = _
    rw [← hflat, hjl, List.take_length, flat_all prC_len]
    rfl
  | cons q r =>
    rw [hrest] at hA
    have A1 : At s a (List.replicate m 32 ++ (prP p ++ ([32] ++ ([97, 110, 100] ++ ([32] ++ prF (q :: r)))))) := hA
    have k1 := ok29 s m A1 hrd (show endR2 ([32] ++ _) from rfl) (by omega)
    have A2 := At.app _ (At.app _ A1)
    rw [List.length_replicate] at A2
    have k2 := ok30 s 1 (r := [97, 110, 100] ++ ([32] ++ prF (q :: r))) A2 (by show (97 : UInt8) ≠ 32; decide) (by omega)
    have A3 := At.app _ A2
    have k3 := ok31 s 0 (c := 97) (w := [110, 100]) (r := [32] ++ prF (q :: r)) A3 (by decide) (by decide) ⟨by decide, by decide⟩ (by omega)
    have A4 := At.app _ A3
    have hle := A4.le
    have x1 : (((a + m + (prP p).length + 1 : Nat) : Int) == (s.size : Int)) = false := by
      rw [beq_eq_false_iff_ne]
      simp only [List.length_cons, List.length_nil] at hle
      omega
    have dA : (!((txt [97, 110, 100]).toList == (txt [97, 110, 100]).toList)) = false := by rw [beq_self_eq_true]; rfl
    refine W.callF [0] _ k1 (by decide) rfl rfl rfl rfl rfl rfl ?_
    refine W.alt_l ?_
    refine W.need ⟨rfl, rfl, rfl, by omega, by omega, hone⟩ ?_
    refine W.callF [0] _ k2 (by decide) rfl rfl rfl rfl rfl rfl ?_
    repeat (first | refine W.ite_t rfl ?_ | refine W.ite_f rfl ?_ | refine W.ite_f x1 ?_)
    refine W.callF [0] _ k3 (by decide) rfl rfl rfl rfl rfl rfl ?_
    refine W.ite_f dA ?_
    refine W.ret ⟨_, _, _, ?_, Trim.of [0, 4, 5] [0, 1] (by decide) (by show ∀ i ∈ [0, 1], i < 2; simp) (fun i hi => pk2 i (by have : i < 1 := hi; omega)), j + 1, a + m + (prP p).length + 1 + 0 + ([110, 100].length + 1), 1, ?_, ?_, ?_, ?_, rfl⟩
    · omega
    · rfl
    · rw [hflat]; rfl
    · have := congrArg List.length hrest
      rw [List.length_drop] at this
      simp only [List.length_cons] at this
      omega
    · rw [hrest]; exact A4
end Go.Proofs.YtddhlmejaobcgaaDoor.Va

set_option maxRecDepth 100000
set_option linter.unusedVariables false
set_option linter.unusedSimpArgs false
/- A text that is no filter. -/
namespace Go.Proofs.YtddhlmejaobcgaaDoor.Va
open Go Go.Am
def badL : List UInt8 := [112, 114, 105, 99, 101] ++ ([32] ++ ([105, 110] ++ ([32] ++ (sgW false [48, 51] ++ [46, 46, 57]))))
abbrev badP : Prd := ⟨txt [112, 114, 105, 99, 101], 1, 3, 0, txt []⟩
set_option maxHeartbeats 16000000 in
theorem ok29N : CallOk Tryd.prog 29 [.ptr 0 0] (pS (txt badL) 0 (-1)) (fun v σ => v = .d (.agg (prC badP)) ∧ σ = pS (txt badL) 11 9) := by
  refine CallOk.of tysOk mixed od29 Tryd.func29 rfl rfl code29 ?_
  have hs : (txt badL).size ≤ 1000000 := by decide
  have A1 : At (txt badL) 0 (List.replicate 0 32 ++ ((112 :: [114, 105, 99, 101]) ++ ([32] ++ ([105, 110] ++ ([32] ++ (sgW false [48, 51] ++ [46, 46, 57])))))) := At.all _
  have k1 := ok31 (txt badL) 0 A1 (by decide) (by decide) ⟨by decide, by decide⟩ hs
  have A2 := At.app _ (At.app _ A1)
  have k2 := ok30 (txt badL) 1 (r := [105, 110] ++ ([32] ++ (sgW false [48, 51] ++ [46, 46, 57]))) A2 (by show (105 : UInt8) ≠ 32; decide) hs
  have A3 := At.app [32] A2
  have k3 := ok31 (txt badL) 0 (c := 105) (w := [110]) (r := [32] ++ (sgW false [48, 51] ++ [46, 46, 57])) A3 (by decide) (by decide) ⟨by decide, by decide⟩ hs
  have A4 := At.app [105, 110] A3
  have k4 := ok49 (txt badL) 1 false (c := 48) (w' := [51]) (r := [46, 46, 57]) A4 (by decide) (by decide) (by show isDig 46 = false; decide) true (by decide) (by intro h; cases h) hs
  have k5 := ok47B (txt badL) (txt [46, 46]) 11 9 (by decide)
  have k6 := ok49B (txt badL) 11 9 (by decide)
  have dIn : (!((txt [105, 110]).toList == (txt [105, 110]).toList)) = false := by rw [beq_self_eq_true]; rfl
  refine W.callF [0] _ k1 (by decide) rfl rfl rfl rfl rfl rfl ?_
  refine W.callF [0] _ k2 (by decide) rfl rfl rfl rfl rfl rfl ?_
  repeat (first | refine W.ite_t rfl ?_ | refine W.ite_f rfl ?_ | refine W.need ⟨by decide, by decide⟩ ?_)
  refine W.callF [0] _ k3 (by decide) rfl rfl rfl rfl rfl rfl ?_
  refine W.ite_f dIn ?_
  refine W.callF [0] _ k4 (by decide) rfl rfl rfl rfl rfl rfl ?_
  refine W.callF [0] _ k5 (by decide) rfl rfl rfl rfl rfl rfl ?_
  refine W.callF [0] _ k6 (by decide) rfl rfl rfl rfl rfl rfl ?_
  exact W.ret (RetQ.part [0] (by decide) (by show ∀ i ∈ [0], i < 3; simp) pk1 ⟨rfl, rfl⟩)
abbrev fauF : D := .iface 81 (.box [sD (txt [102, 105, 108, 116, 101, 114]), nI 9, .iface 82 (nI 2)] 0)
set_option maxHeartbeats 16000000 in
theorem ok15N : Go.Am.Pure Tryd.prog 15 [.d (sD (txt badL))] (.tuple [.d (.lit (.slice none 0 0)), .d fauF]) := by
  refine CallOk.of tysOk mixed od15 Tryd.func15 rfl rfl code15 ?_
  have k2 := ok30B (txt badL) 11 9 (by decide)
  have k3 := ok31B (txt badL) 11 9 (by decide) (by decide)
  have k4 := ok32B (txt badL) 11 9 11 (by decide)
  have dA : (!((txt []).toList == (txt [97, 110, 100]).toList)) = true := by rw [ByteArray.toList_eq, ByteArray.toList_eq]; rfl
  refine W.ite_f rfl ?_
  refine W.loop (fun k fr σ => (k = 1 ∧ fr = [(0, .d (sD (txt badL))), (4, .ptr 0 0), (5, .vec 1 0)] ∧ σ = pS (txt badL) 0 (-1) ++ [.vec 5 0 []]) ∨ (k = 0 ∧ fr = [(0, .d (sD (txt badL))), (4, .ptr 0 0), (5, .vec 1 1)] ∧ σ = pS (txt badL) 11 9 ++ [.vec 5 1 (prC badP)])) 1
    (Start.of [0, 4] [(5, 5)] (by intro p hp; obtain rfl := List.mem_singleton.1 hp; rfl)) (.inl ⟨rfl, rfl, rfl⟩) ?_
  rintro k fr σ (⟨rfl, rfl, rfl⟩ | ⟨rfl, rfl, rfl⟩)
  · refine W.ite_t rfl ?_
    refine W.callF [0] _ ok29N (by decide) rfl rfl rfl rfl rfl rfl ?_
    refine W.alt_l ?_
    refine W.need ⟨rfl, rfl, rfl, by decide, by decide, prC_one badP⟩ ?_
    refine W.callF [0] _ k2 (by decide) rfl rfl rfl rfl rfl rfl ?_
    repeat (first | refine W.ite_t rfl ?_ | refine W.ite_f rfl ?_)
    refine W.callF [0] _ k3 (by decide) rfl rfl rfl rfl rfl rfl ?_
    refine W.ite_t dA ?_
    refine W.callF [0] _ k4 (by decide) rfl rfl rfl rfl rfl rfl ?_
    refine W.ret ⟨_, _, _, ?_, Trim.of [0, 4, 5] [0, 1] (by decide) (by show ∀ i ∈ [0, 1], i < 2; simp) (fun i hi => pk2 i (by have : i < 1 := hi; omega)), .inr ⟨rfl, rfl, rfl⟩⟩
    decide
  · refine W.ite_f rfl ?_
    refine W.ret ?_
    exact W.ret (RetQ.pure rfl rfl)
end Go.Proofs.YtddhlmejaobcgaaDoor.Va
