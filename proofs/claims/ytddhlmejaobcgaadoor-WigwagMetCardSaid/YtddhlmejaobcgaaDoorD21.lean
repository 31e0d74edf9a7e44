import Derived.Test.YtddhlmejaobcgaaDoorD19
set_option maxRecDepth 100000
set_option linter.unusedVariables false
set_option linter.unusedSimpArgs false
namespace Go.Proofs.YtddhlmejaobcgaaDoor.Dy
open Go Go.Am
/-- The cells of a predicate. -/
def ffS : ByteArray := ⟨#[255, 255]⟩
def rangeV (k mn mx o lo hi : Int) (s : ByteArray) (n : Int) : Int × Int :=
  if o = 1 then (cellV k mn mx lo ⟨#[]⟩ n, cellV k mn mx hi ⟨#[]⟩ n)
  else (cellV k mn mx 0 s n, if o = 2 then cellV k mn mx 0 s n else cellV k mn mx 0 (s ++ ffS) n)
abbrev pairI (p : Int × Int) : AV := .tuple [.d (nI p.1), .d (nI p.2)]
def od13 : Ords := [(3, [0, 1, 2, 3, 4, 6, 7, 8, 9, 10, 5, 1011, 12, 13]), (7, [0, 1, 2, 3, 4, 6, 7, 8, 9, 10, 11, 5, 1012, 13, 14])]
theorem code13 : codeB Tryd.f13.ntmps od13 (match Tryd.f13.body with | some c => c | none => .skip) = true := by kernel_rfl
theorem ret_pair {a b : Int} {p : Int × Int} (h : (a, b) = p) : mkRet [.d (nI a), .d (nI b)] = pairI p := by subst h; rfl
set_option maxHeartbeats 4000000 in
theorem ok13 (nm : ByteArray) (k mn mx : Int) (pn : ByteArray) (o lo hi : Int) (s : ByteArray) (n : Int) (hs : s.size ≤ 60) : Go.Am.Pure Tryd.prog 13 [atD nm k mn mx, prD pn o lo hi s, .d (nI n)] (pairI (rangeV k mn mx o lo hi s n)) := by
  refine CallOk.of tysCOk mixed od13 Tryd.func13 rfl rfl code13 ?_
  refine W.ite (fun h1 => ?_) (fun h1 => ?_)
  · have n1 : o = 1 := by simpa using h1
    refine W.pure (ok14 nm k mn mx lo ⟨#[]⟩ n) rfl rfl ?_
    refine W.pure (ok14 nm k mn mx hi ⟨#[]⟩ n) rfl rfl ?_
    refine W.ret ?_
    refine RetQ.pure rfl (ret_pair ?_)
    unfold rangeV
    rw [if_pos n1]
  · have n1 : ¬ o = 1 := by simpa using h1
    refine W.ite (fun h2 => ?_) (fun h2 => ?_)
    · have n2 : o = 2 := by simpa using h2
      refine W.pure (ok14 nm k mn mx 0 s n) rfl rfl ?_
      refine W.ret ?_
      refine RetQ.pure rfl (ret_pair ?_)
      unfold rangeV
      rw [if_neg n1, if_pos n2]
    · have n2 : ¬ o = 2 := by simpa using h2
      refine W.need ?_ ?_
      · show ((s.size + 2 : Nat) : Int) ≤ 9223372036854775807
        omega
      refine W.pure (ok14 nm k mn mx 0 s n) rfl rfl ?_
      refine W.pure (ok14 nm k mn mx 0 (s ++ ffS) n) rfl rfl ?_
      refine W.ret ?_
      refine RetQ.pure rfl (ret_pair ?_)
      unfold rangeV
      rw [if_neg n1, if_neg n2]
end Go.Proofs.YtddhlmejaobcgaaDoor.Dy
