import Derived.Test.YtbjjimllnffcpaaGreatDoorGQ
import Derived.Test.YtbjjimllnffcpaaGreatDoorIV
set_option maxRecDepth 100000
set_option linter.unusedVariables false
set_option linter.unusedSimpArgs false
/- Names of groups are told apart; names of any interval. -/
namespace Go.Proofs.YtbjjimllnffcpaaGreatDoor.Gr
open Go Go.Am Va
/-! ### names -/
theorem dl (s : ByteArray) : s.toList = s.data.toList := ByteArray.toList_eq s
def valD (l : List UInt8) : Nat := l.foldl (fun a b => 10 * a + (b.toNat - 48)) 0
theorem numS_val : ∀ n, n < 1000 → valD (numS n).data.toList = n := by decide +kernel
theorem numS_dot : ∀ n, n < 1000 → (numS n).data.toList.all (fun b => b != 46) = true := by decide +kernel
theorem dot_free {l : List UInt8} (h : l.all (fun b => b != 46) = true) : 46 ∉ l := fun hm => by
  have := List.all_eq_true.1 h 46 hm
  simp at this
theorem split_dot : ∀ {x y r s : List UInt8}, 46 ∉ x → 46 ∉ y → x ++ 46 :: r = y ++ 46 :: s → x = y ∧ r = s
  | [], [], r, s, _, _, h => ⟨rfl, by simpa using h⟩
  | [], b :: y, r, s, _, h2, h => by
    have : (46 : UInt8) = b := by simpa using (List.cons.inj h).1
    exact absurd (by simp [this]) h2
  | a :: x, [], r, s, h1, _, h => by
    have : a = 46 := by simpa using (List.cons.inj h).1
    exact absurd (by simp [this]) h1
  | a :: x, b :: y, r, s, h1, h2, h => by
    obtain ⟨e1, e2⟩ := List.cons.inj h
    obtain ⟨e3, e4⟩ := split_dot (fun hm => h1 (List.mem_cons_of_mem _ hm)) (fun hm => h2 (List.mem_cons_of_mem _ hm)) e2
    exact ⟨by rw [e1, e3], e4⟩
theorem nameS_list (a : ByteArray) (l i : Nat) : (nameS a l i).toList = a.toList ++ 46 :: ((numS l).data.toList ++ 46 :: (numS i).data.toList) := by
  unfold nameS
  rw [Dy.toList_append, Dy.toList_append, Dy.toList_append, Dy.toList_append, dl (numS l), dl (numS i), dl dotS]
  simp [dotS, txt]
theorem nameS_inj {a b : ByteArray} {l i k j : Nat} (ha : 46 ∉ a.toList) (hb : 46 ∉ b.toList) (h1 : l < 1000) (h2 : i < 1000) (h3 : k < 1000) (h4 : j < 1000) :
    (nameS a l i).toList = (nameS b k j).toList ↔ a.toList = b.toList ∧ l = k ∧ i = j := by
  rw [nameS_list, nameS_list]
  constructor
  · intro h
    obtain ⟨e1, e2⟩ := split_dot ha hb h
    obtain ⟨e3, e4⟩ := split_dot (dot_free (numS_dot l h1)) (dot_free (numS_dot k h3)) e2
    refine ⟨e1, ?_, ?_⟩
    · rw [← numS_val l h1, e3, numS_val k h3]
    · rw [← numS_val i h2, e4, numS_val j h4]
  · rintro ⟨e1, rfl, rfl⟩
    rw [e1]
theorem name_dot {a : ByteArray} (h : nameOk a = true) : 46 ∉ a.toList := fun hm => by
  unfold nameOk at h
  split at h
  · cases h
  · have h' : hasRune badName a = false := by simpa using h
    rw [hasRune_any badName badName_hi] at h'
    unfold anyB at h'
    rw [dl] at hm
    have := List.any_eq_false.1 h' 46 hm
    revert this
    decide
theorem name_size {a : ByteArray} (h : nameOk a = true) : a.size ≤ 12 := by
  unfold nameOk at h
  split at h
  · cases h
  · rename_i hn
    have : ¬ ((a.size : Int) > 12) := fun h => hn (.inr (.inl h))
    omega
/-! ### numerals of every int -/
theorem txt_app (a b : List UInt8) : txt a ++ txt b = txt (a ++ b) := by
  apply ByteArray.ext
  show (txt a ++ txt b).data = (a ++ b).toArray
  rw [ByteArray.data_append]
  simp [txt]
theorem digG_dec : ∀ (f u : Nat) (b : Bool) (s : ByteArray), u < 10 ^ f → ((b = true ∧ 0 < f) ∨ 0 < u) → digG f b u s = txt (Lib.decDigits u) ++ s
  | 0, u, b, s, hu, hb => by
    have : u = 0 := by simpa using hu
    omega
  | f + 1, u, b, s, hu, hb => by
    rw [digG, if_pos (hb.imp And.left id)]
    by_cases h : u < 10
    · rw [Lib.decDigits, dif_pos h, show u / 10 = 0 from by omega, Nat.mod_eq_of_lt h]
      cases f with
      | zero => rfl
      | succ f => rw [digG, if_neg (by simp)]
    · rw [Lib.decDigits, dif_neg h, digG_dec f (u / 10) false _ (by rw [Nat.pow_succ] at hu; omega) (.inr (by omega)), ← ByteArray.append_assoc, txt_app]
theorem digI_itS (n : Int) (h0 : -9223372036854775808 ≤ n) (h1 : n ≤ 9223372036854775807) : digI n = itS n := by
  have e : ∀ u : Nat, u < 10 ^ 20 → digG 20 true u (txt []) = txt (Lib.decDigits u) := fun u hu => by
    rw [digG_dec 20 u true _ hu (.inl ⟨rfl, by decide⟩)]
    exact ByteArray.append_empty
  have hb : n.natAbs < 10 ^ 20 := Nat.lt_of_le_of_lt (by omega : n.natAbs ≤ 9223372036854775808) (by decide)
  unfold digI itS Lib.itoa
  by_cases hn : n < 0
  · rw [if_pos hn, if_pos hn, e _ hb]
    exact txt_app [45] _
  · rw [if_neg hn, if_neg hn, e _ hb]
    congr 2
    omega
theorem digG_size : ∀ (f u : Nat) (b : Bool) (s : ByteArray), (digG f b u s).size ≤ f + s.size
  | 0, u, b, s => by rw [digG]; omega
  | f + 1, u, b, s => by
    rw [digG]
    split
    · have := digG_size f (u / 10) false (txt [UInt8.ofNat (48 + u % 10)] ++ s)
      rw [ByteArray.size_append, one_size] at this
      omega
    · omega
theorem digI_size (n : Int) : (digI n).size ≤ 21 := by
  have h := digG_size 20 n.natAbs true (txt [])
  have e0 : (txt []).size = 0 := rfl
  unfold digI
  split
  · rw [ByteArray.size_append, one_size]; omega
  · omega
/-- The name of any interval. -/
def nameI (a : ByteArray) (l i : Int) : ByteArray := a ++ dotS ++ digI l ++ dotS ++ digI i
def i64 (n : Int) : Prop := -9223372036854775808 ≤ n ∧ n ≤ 9223372036854775807
theorem ok21i (a : ByteArray) (l i : Int) (ha : a.size ≤ 1000) (hl : i64 l) (hi : i64 i) : Go.Am.Pure Tryz.prog 21 [.d (sD a), Dy.iv l i] (.d (sD (nameI a l i))) := by
  refine CallOk.of tysOk mixed od21 Tryz.func21 rfl rfl code21 ?_
  have s1 := digI_size l
  have s2 := digI_size i
  have k1 := ok50 l hl.1 hl.2
  have k2 := ok50 i hi.1 hi.2
  have e1 : (a ++ dotS).size = a.size + 1 := by rw [ByteArray.size_append]; rfl
  have e2 : (a ++ dotS ++ digI l).size = a.size + 1 + (digI l).size := by rw [ByteArray.size_append, e1]
  have e3 : (a ++ dotS ++ digI l ++ dotS).size = a.size + 1 + (digI l).size + 1 := by rw [ByteArray.size_append, e2]; rfl
  refine W.need (by show ((a.size + 1 : Nat) : Int) ≤ 9223372036854775807; omega) ?_
  refine W.pure k1 rfl rfl ?_
  refine W.need (by show (((a ++ dotS).size + (digI l).size : Nat) : Int) ≤ 9223372036854775807; rw [e1]; omega) ?_
  refine W.need (by show (((a ++ dotS ++ digI l).size + 1 : Nat) : Int) ≤ 9223372036854775807; rw [e2]; omega) ?_
  refine W.pure k2 rfl rfl ?_
  refine W.need (by show (((a ++ dotS ++ digI l ++ dotS).size + (digI i).size : Nat) : Int) ≤ 9223372036854775807; rw [e3]; omega) ?_
  exact W.ret (RetQ.pure rfl rfl)
theorem ok20i (a : ByteArray) (l i : Int) (ha : a.size ≤ 1000) (hl : i64 l) (hi : i64 i) : Go.Am.Pure Tryz.prog 20 [.d (sD a), Dy.iv l i] (.d (sD (nameI a l i))) := by
  refine CallOk.of tysOk mixed od20 Tryz.func20 rfl rfl code20 ?_
  have s1 := digI_size l
  have s2 := digI_size i
  have k1 := ok49i l hl.1 hl.2
  have k2 := ok49i i hi.1 hi.2
  rw [← digI_itS l hl.1 hl.2] at k1
  rw [← digI_itS i hi.1 hi.2] at k2
  have e1 : (a ++ dotS).size = a.size + 1 := by rw [ByteArray.size_append]; rfl
  have e2 : (a ++ dotS ++ digI l).size = a.size + 1 + (digI l).size := by rw [ByteArray.size_append, e1]
  have e3 : (a ++ dotS ++ digI l ++ dotS).size = a.size + 1 + (digI l).size + 1 := by rw [ByteArray.size_append, e2]; rfl
  refine W.need (by show ((a.size + 1 : Nat) : Int) ≤ 9223372036854775807; omega) ?_
  refine W.pure k1 rfl rfl ?_
  refine W.need (by show (((a ++ dotS).size + (digI l).size : Nat) : Int) ≤ 9223372036854775807; rw [e1]; omega) ?_
  refine W.need (by show (((a ++ dotS ++ digI l).size + 1 : Nat) : Int) ≤ 9223372036854775807; rw [e2]; omega) ?_
  refine W.pure k2 rfl rfl ?_
  refine W.need (by show (((a ++ dotS ++ digI l ++ dotS).size + (digI i).size : Nat) : Int) ≤ 9223372036854775807; rw [e3]; omega) ?_
  exact W.ret (RetQ.pure rfl rfl)
theorem nameI_nat (a : ByteArray) (l i : Nat) (hl : l < 1000) (hi : i < 1000) : nameI a l i = nameS a l i := by
  unfold nameI nameS
  rw [digI_small l hl, digI_small i hi]
/-! ### what is read of a name -/
def RdOk (s : ByteArray) (n : Int) (a : ByteArray) (l i : Nat) : Prop := nameOk a = true ∧ Dy.good l i n = true ∧ nameS a l i = s
theorem RdOk.small {s a : ByteArray} {n : Int} {l i : Nat} (h : RdOk s n a l i) : l ≤ 8 ∧ i < 256 := by
  obtain ⟨_, hg, _⟩ := h
  obtain ⟨h1, h2, h3, h4, h5, h6⟩ := Dy.good_iff.1 hg
  have hl : l ≤ 8 := by omega
  refine ⟨hl, ?_⟩
  have hp : (2 : Int) ^ l ≤ 2 ^ 8 := by
    have : (2 : Nat) ^ l ≤ 2 ^ 8 := Nat.pow_le_pow_right (by decide) hl
    exact_mod_cast this
  have h7 : (2 : Int) ^ 8 = 256 := by decide
  rw [Int.toNat_natCast] at h6
  omega
theorem RdOk.uniq {s a b : ByteArray} {n : Int} {l i k j : Nat} (h : RdOk s n a l i) (h' : RdOk s n b k j) : a = b ∧ l = k ∧ i = j := by
  have h1 := h.small
  have h2 := h'.small
  obtain ⟨e1, e2, e3⟩ := (nameS_inj (name_dot h.1) (name_dot h'.1) (l := l) (i := i) (k := k) (j := j) (by omega) (by omega) (by omega) (by omega)).1 (by rw [h.2.2, h'.2.2])
  refine ⟨?_, e2, e3⟩
  rw [dl, dl] at e1
  exact ByteArray.ext (Array.toList_inj.1 e1)
end Go.Proofs.YtbjjimllnffcpaaGreatDoor.Gr
