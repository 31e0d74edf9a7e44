import Derived.Test.YtbjjimllnffcpaaDoorG5
set_option maxRecDepth 100000
set_option linter.unusedVariables false
set_option linter.unusedSimpArgs false
/- The statements GroupApart, GroupFewest. -/
namespace Go.Proofs.YtbjjimllnffcpaaDoor.Gr
open Go Go.Am Va
def od3 : Ords := [(3, [1000, 1, 2, 3, 5, 6, 9, 10, 11, 4, 7, 8, 12, 13, 14, 15, 16, 17, 18, 19])]
theorem code3 : codeB Tryd.f3.ntmps od3 (match Tryd.f3.body with | some c => c | none => .skip) = true := by kernel_rfl
theorem beq_int {a b : Int} : (a == b) = decide (a = b) := by
  by_cases h : a = b
  · rw [h]; simp
  · rw [decide_eq_false h]; simpa using h
set_option maxHeartbeats 4000000 in
theorem ok3 (a b : ByteArray) (xl xi yl yi n : Int) : Go.Am.Pure Tryd.prog 3 [.d (sD a), .d (sD b), Dy.iv xl xi, Dy.iv yl yi, .d (nI n)] (bI true) := by
  refine CallOk.of tysOk mixed od3 Tryd.func3 rfl rfl code3 ?_
  have n1 := ok8 a
  have n2 := ok8 b
  have g1 := Dy.ok9 xl xi n
  have g2 := Dy.ok9 yl yi n
  have fin : ∀ {σ : Store}, W Tryd.prog (.call 10 [] σ [] fun v σ => .ret .ret [(0, v)] σ) (RetQ ([] : Store).length (fun v s' => v = bI true ∧ s' = [])) := fun {σ} => W.pure ok10 rfl rfl (W.ret (RetQ.pure rfl rfl))
  refine W.pure n1 rfl rfl ?_
  cases ca : nameOk a with
  | false =>
    repeat (first | refine W.ite_t rfl ?_ | refine W.ite_f rfl ?_)
    exact W.pure ok10 rfl rfl (W.ret (RetQ.pure rfl rfl))
  | true =>
  repeat (first | refine W.ite_t rfl ?_ | refine W.ite_f rfl ?_)
  refine W.pure n2 rfl rfl ?_
  cases cb : nameOk b with
  | false =>
    repeat (first | refine W.ite_t rfl ?_ | refine W.ite_f rfl ?_)
    exact W.pure ok10 rfl rfl (W.ret (RetQ.pure rfl rfl))
  | true =>
  repeat (first | refine W.ite_t rfl ?_ | refine W.ite_f rfl ?_)
  refine W.pure g1 rfl rfl ?_
  cases c1 : Dy.good xl xi n with
  | false =>
    repeat (first | refine W.ite_t rfl ?_ | refine W.ite_f rfl ?_)
    exact W.pure ok10 rfl rfl (W.ret (RetQ.pure rfl rfl))
  | true =>
  repeat (first | refine W.ite_t rfl ?_ | refine W.ite_f rfl ?_)
  refine W.pure g2 rfl rfl ?_
  cases c2 : Dy.good yl yi n with
  | false =>
    repeat (first | refine W.ite_t rfl ?_ | refine W.ite_f rfl ?_)
    exact W.pure ok10 rfl rfl (W.ret (RetQ.pure rfl rfl))
  | true =>
  repeat (first | refine W.ite_t rfl ?_ | refine W.ite_f rfl ?_)
  refine W.pure ok10 rfl rfl ?_
  obtain ⟨x1, x2, x3, x4⟩ := good_small c1
  obtain ⟨y1, y2, y3, y4⟩ := good_small c2
  have kx := ok11 a xl.toNat xi.toNat (by have := name_size ca; omega) (by omega) (by omega)
  have ky := ok11 b yl.toNat yi.toNat (by have := name_size cb; omega) (by omega) (by omega)
  rw [show ((xl.toNat : Nat) : Int) = xl from by omega, show ((xi.toNat : Nat) : Int) = xi from by omega] at kx
  rw [show ((yl.toNat : Nat) : Int) = yl from by omega, show ((yi.toNat : Nat) : Int) = yi from by omega] at ky
  have key := nameS_inj (name_dot ca) (name_dot cb) (l := xl.toNat) (i := xi.toNat) (k := yl.toNat) (j := yi.toNat) (by omega) (by omega) (by omega) (by omega)
  repeat (first | refine W.ite_t rfl ?_ | refine W.ite_f rfl ?_)
  cases cn : a.toList == b.toList with
  | false =>
    have hne : ((nameS a xl.toNat xi.toNat).toList == (nameS b yl.toNat yi.toNat).toList) = false := by
      rw [beq_eq_false_iff_ne]
      intro h
      have := (key.1 h).1
      rw [this] at cn
      simp at cn
    repeat (first | refine W.ite_t rfl ?_ | refine W.ite_f rfl ?_ | refine W.ite_t cn ?_ | refine W.ite_f cn ?_)
    refine W.pure kx rfl rfl ?_
    repeat (first | refine W.ite_t rfl ?_ | refine W.ite_f rfl ?_ | refine W.ite_t cn ?_ | refine W.ite_f cn ?_)
    refine W.pure ky rfl rfl ?_
    repeat (first | refine W.ite_t rfl ?_ | refine W.ite_f rfl ?_ | refine W.ite_t cn ?_ | refine W.ite_f cn ?_)
    refine W.ret (RetQ.pure rfl (ret_bI ?_))
    rw [hne]
    rfl
  | true =>
    have hab : a.toList = b.toList := eq_of_beq cn
    repeat (first | refine W.ite_t rfl ?_ | refine W.ite_f rfl ?_ | refine W.ite_t cn ?_ | refine W.ite_f cn ?_)
    refine W.pure kx rfl rfl ?_
    repeat (first | refine W.ite_t rfl ?_ | refine W.ite_f rfl ?_ | refine W.ite_t cn ?_ | refine W.ite_f cn ?_)
    refine W.pure ky rfl rfl ?_
    repeat (first | refine W.ite_t rfl ?_ | refine W.ite_f rfl ?_ | refine W.ite_t cn ?_ | refine W.ite_f cn ?_)
    refine W.ret (RetQ.pure rfl (ret_bI ?_))
    have he : ((nameS a xl.toNat xi.toNat).toList == (nameS b yl.toNat yi.toNat).toList) = ((xl == yl) && ((xi == yi) && true)) := by
      rw [Bool.eq_iff_iff]
      simp only [beq_iff_eq, Bool.and_eq_true, and_true]
      rw [key]
      constructor
      · rintro ⟨_, h1, h2⟩; omega
      · rintro ⟨h1, h2⟩; exact ⟨hab, by omega, by omega⟩
    rw [he]
    simp
end Go.Proofs.YtbjjimllnffcpaaDoor.Gr
