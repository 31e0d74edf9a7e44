import Derived.Test.YtbjjimllnffcpaaGreatDoorA
import Derived.Test.YtbjjimllnffcpaaGreatDoorGQ
set_option maxRecDepth 100000
set_option linter.unusedVariables false
set_option linter.unusedSimpArgs false
/- The statement GroupMeets. -/
namespace Go.Proofs.YtbjjimllnffcpaaGreatDoor.Gr
open Go Go.Am Va
def od3 : Ords := []
theorem code3 : codeB Tryz.f3.ntmps od3 (match Tryz.f3.body with | some c => c | none => .skip) = true := by kernel_rfl
theorem ofL_len (s : List Att) (f : List Prd) (n : Int) : (ofL s f n).length ≤ 1000000 := by
  unfold ofL
  split
  · rw [names_len]
    have := Dy.cover_len (rgQ s (pickQ s f n) n).1 (rgQ s (pickQ s f n) n).2 n
    omega
  · simp
theorem reachL_len (s : List Att) (hs : s.length ≤ 6) (e : Evt) (n : Int) : (reachL s e n).length ≤ 1000000 := by
  unfold reachL
  split
  · have := reachN_len s e n s.length
    omega
  · simp
set_option maxHeartbeats 8000000 in
theorem ok3 (s0 : List Att) (f0 : List Prd) (e0 : Evt) (n : Int) : Go.Am.Pure Tryz.prog 3 [slF atC s0, slF prC f0, .d (.agg (evC e0)), .d (nI n)] (bI true) := by
  refine CallOk.of tysOk mixed od3 Tryz.func3 rfl rfl code3 ?_
  refine W.pure (ok5 s0) rfl rfl ?_
  refine W.pure (ok6 f0) rfl rfl ?_
  refine W.pure (ok7 e0) rfl rfl ?_
  have hp6 := att6_len s0
  have hf6 := prd6_len f0
  have hnm : ∀ a ∈ att6 s0, a.nm.size ≤ 1000 := fun a ha => by
    obtain ⟨b, _, rfl⟩ := List.mem_map.1 ha
    have := cutN_le b.nm 20
    show (cutN b.nm 20).size ≤ 1000
    omega
  have hqm : ∀ a ∈ prd6 f0, a.nm.size ≤ 1000 := fun a ha => by
    obtain ⟨b, _, rfl⟩ := List.mem_map.1 ha
    have := cutN_le b.nm 20
    show (cutN b.nm 20).size ≤ 1000
    omega
  have hqs : ∀ a ∈ prd6 f0, a.str.size ≤ 1000000 := fun a ha => by
    obtain ⟨b, _, rfl⟩ := List.mem_map.1 ha
    have := cutN_le b.str 50
    show (cutN b.str 50).size ≤ 1000000
    omega
  have hvs : ∀ a ∈ (evt6 e0).vals, a.str.size ≤ 1000000 := fun a ha => by
    obtain ⟨b, _, rfl⟩ := List.mem_map.1 ha
    have := cutN_le b.str 50
    show (cutN b.str 50).size ≤ 1000000
    omega
  generalize att6 s0 = s at *
  generalize prd6 f0 = f at *
  generalize evt6 e0 = e at *
  have hnm6 : ∀ a ∈ s, a.nm.size ≤ 1000000 := fun a ha => by have := hnm a ha; omega
  have k1 := ok16 (ofL s f n) (ofL s f n) (ofL_len s f n) (ofL_len s f n)
  have k2 := ok16 (reachL s e n) (reachL s e n) (reachL_len s hp6 e n) (reachL_len s hp6 e n)
  rw [eqL_refl] at k1 k2
  have j1 := ok8 s (by omega) f n
  have j2 := ok9 s (by omega) hnm6 f hqs n
  have j3 := ok10 s (by omega) f hqm n
  have j4 := ok11 s (by omega) hnm6 f hqs hqm n
  have j5 := ok12 s (by omega) hnm e n
  have j6 := ok13 s (by omega) hnm e hvs n
  have ko := As.okOfNil
  have ko1 : Go.Am.Pure Tryz.prog 15 [.d (gfaultE 1)] (.d (nI 1)) := As.okOf _ 0 1
  have ko3 : ∀ i : Nat, Go.Am.Pure Tryz.prog 15 [.d (faultE i 3)] (.d (nI 3)) := fun i => As.okOf _ i 3
  have c1 : (chooseI s f n == chooseI s f n) = true := beq_self_eq_true _
  generalize chooseE s f n = g1 at *
  generalize reachE s e n = g2 at *
  generalize chooseI s f n = ci at *
  generalize ofL s f n = X at *
  generalize reachL s e n = Y at *
  cases g1 <;> cases g2
  all_goals
    refine W.pure j1 rfl rfl ?_
    refine W.pure j2 rfl rfl ?_
    refine W.pure j3 rfl rfl ?_
    refine W.pure j4 rfl rfl ?_
    refine W.pure j5 rfl rfl ?_
    refine W.pure j6 rfl rfl ?_
    refine W.pure ok14 rfl rfl ?_
    repeat (first | refine W.ite_t rfl ?_ | refine W.ite_f rfl ?_ | refine W.ite_t c1 ?_ | refine W.pure ko rfl rfl ?_ | refine W.pure ko1 rfl rfl ?_ | refine W.pure (ko3 _) rfl rfl ?_ | refine W.pure k1 rfl rfl ?_ | refine W.pure k2 rfl rfl ?_)
    exact W.ret (RetQ.pure rfl rfl)
end Go.Proofs.YtbjjimllnffcpaaGreatDoor.Gr
