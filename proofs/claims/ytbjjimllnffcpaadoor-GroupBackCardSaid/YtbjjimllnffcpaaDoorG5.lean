import Derived.Test.YtbjjimllnffcpaaDoorG4
import Derived.Test.YtbjjimllnffcpaaDoorVV
set_option maxRecDepth 100000
set_option linter.unusedVariables false
set_option linter.unusedSimpArgs false
/- Names of groups are told apart; the statements GroupApart, GroupFewest. -/
namespace Go.Proofs.YtbjjimllnffcpaaDoor.Gr
open Go Go.Am Va
/-! ### names -/
theorem dl (s : ByteArray) : s.toList = s.data.toList := ByteArray.toList_eq s
def valD (l : List UInt8) : Nat := l.foldl (fun a b => 10 * a + (b.toNat - 48)) 0
theorem numS_val : ∀ n, n < 1000 → valD (numS n).data.toList = n := by decide +kernel
theorem numS_dot : ∀ n, n < 1000 → (numS n).data.toList.all (fun b => b != 46) = true := by decide +kernel
theorem dot_free {l : List UInt8} (h : l.all (fun b => b != 46) = true) : 46 ∉ l := fun hm => by
  have := List.all_eq_true.1 h 46 hm
  simp at this
theorem split_dot : ∀ {x y r s : List UInt8}, 46 ∉ x → 46 ∉ y → x ++ 46 :: r = y ++ 46 :: s → x = y ∧ r = s
  | [], [], r, s, _, _, h => ⟨rfl, by simpa using h⟩
  | [], b :: y, r, s, _, h2, h => by
    have : (46 : UInt8) = b := by simpa using (List.cons.inj h).1
    exact absurd (by simp [this]) h2
  | a :: x, [], r, s, h1, _, h => by
    have : a = 46 := by simpa using (List.cons.inj h).1
    exact absurd (by simp [this]) h1
  | a :: x, b :: y, r, s, h1, h2, h => by
    obtain ⟨e1, e2⟩ := List.cons.inj h
    obtain ⟨e3, e4⟩ := split_dot (fun hm => h1 (List.mem_cons_of_mem _ hm)) (fun hm => h2 (List.mem_cons_of_mem _ hm)) e2
    exact ⟨by rw [e1, e3], e4⟩
theorem nameS_list (a : ByteArray) (l i : Nat) : (nameS a l i).toList = a.toList ++ 46 :: ((numS l).data.toList ++ 46 :: (numS i).data.toList) := by
  unfold nameS
  rw [Dy.toList_append, Dy.toList_append, Dy.toList_append, Dy.toList_append, dl (numS l), dl (numS i), dl dotS]
  simp [dotS, txt]
theorem nameS_inj {a b : ByteArray} {l i k j : Nat} (ha : 46 ∉ a.toList) (hb : 46 ∉ b.toList) (h1 : l < 1000) (h2 : i < 1000) (h3 : k < 1000) (h4 : j < 1000) :
    (nameS a l i).toList = (nameS b k j).toList ↔ a.toList = b.toList ∧ l = k ∧ i = j := by
  rw [nameS_list, nameS_list]
  constructor
  · intro h
    obtain ⟨e1, e2⟩ := split_dot ha hb h
    obtain ⟨e3, e4⟩ := split_dot (dot_free (numS_dot l h1)) (dot_free (numS_dot k h3)) e2
    refine ⟨e1, ?_, ?_⟩
    · rw [← numS_val l h1, e3, numS_val k h3]
    · rw [← numS_val i h2, e4, numS_val j h4]
  · rintro ⟨e1, rfl, rfl⟩
    rw [e1]
theorem name_dot {a : ByteArray} (h : nameOk a = true) : 46 ∉ a.toList := fun hm => by
  unfold nameOk at h
  split at h
  · cases h
  · have h' : hasRune badName a = false := by simpa using h
    have := (hasRune_iff badName badName_high).1 h' 46 hm
    revert this
    decide
theorem name_size {a : ByteArray} (h : nameOk a = true) : a.size ≤ 12 := by
  unfold nameOk at h
  split at h
  · cases h
  · rename_i hn
    have : ¬ ((a.size : Int) > 12) := fun h => hn (.inr (.inl h))
    omega
def od10 : Ords := []
theorem code10 : codeB Tryd.f10.ntmps od10 (match Tryd.f10.body with | some c => c | none => .skip) = true := by kernel_rfl
/-! ### what the document fixes -/
def priceS : ByteArray := txt [112, 114, 105, 99, 101]
def awA : List Att := [⟨priceS, 1, 0, 7⟩]
def awF : List Prd := [⟨priceS, 1, 1, 6, txt []⟩]
def awE : Evt := ⟨[⟨5, txt []⟩], txt []⟩
theorem aw1 : chooseE awA awF 3 = .ok := by decide +kernel
theorem aw2 : reachE awA awE 3 = .ok := by decide +kernel
def awL : List ByteArray := [txt [112, 114, 105, 99, 101, 46, 51, 46, 49], txt [112, 114, 105, 99, 101, 46, 50, 46, 49], txt [112, 114, 105, 99, 101, 46, 50, 46, 50], txt [112, 114, 105, 99, 101, 46, 51, 46, 54]]
def awM : List ByteArray := [txt [112, 114, 105, 99, 101, 46, 48, 46, 48], txt [112, 114, 105, 99, 101, 46, 49, 46, 49], txt [112, 114, 105, 99, 101, 46, 50, 46, 50], txt [112, 114, 105, 99, 101, 46, 51, 46, 53]]
theorem aw3 : ofL awA awF 3 = awL := by decide +kernel
theorem aw4 : reachL awA awE 3 = awM := by decide +kernel
theorem eqL_refl : ∀ l : List ByteArray, eqL l l = true
  | [] => rfl
  | a :: r => by rw [eqL, eqL_refl r, sEq_refl]; rfl
theorem ok10 : Go.Am.Pure Tryd.prog 10 [] (bI true) := by
  refine CallOk.of tysOk mixed od10 Tryd.func10 rfl rfl code10 ?_
  have k1 := ok19 awA (by decide) awF (by decide) 3
  rw [aw1, aw3] at k1
  have k2 := ok18 awA (by decide) (by decide) awE 3
  rw [aw2, aw4] at k2
  have k3 := ok25 awL awL (by decide) (by decide)
  have k4 := ok25 awM awM (by decide) (by decide)
  rw [eqL_refl] at k3 k4
  refine W.alt_l (W.alt_l ?_)
  refine W.pure k1 rfl rfl ?_
  refine W.alt_l ?_
  refine W.pure k2 rfl rfl ?_
  repeat (first | refine W.ite_t rfl ?_ | refine W.ite_f rfl ?_)
  refine W.alt_l ?_
  repeat (first | refine W.ite_t rfl ?_ | refine W.ite_f rfl ?_)
  refine W.pure k3 rfl rfl ?_
  repeat (first | refine W.ite_t rfl ?_ | refine W.ite_f rfl ?_)
  refine W.alt_l ?_
  repeat (first | refine W.ite_t rfl ?_ | refine W.ite_f rfl ?_)
  refine W.pure k4 rfl rfl ?_
  repeat (first | refine W.ite_t rfl ?_ | refine W.ite_f rfl ?_)
  exact W.ret (RetQ.pure rfl rfl)
end Go.Proofs.YtbjjimllnffcpaaDoor.Gr
