import Derived.Test.YtkdibdlbigmkcaaDoorCQ
set_option maxRecDepth 100000
set_option linter.unusedVariables false
set_option linter.unusedSimpArgs false
/- Layer 15: messages, and their check. -/
namespace Go.Proofs.YtkdibdlbigmkcaaDoor.Ms
open Go Go.Am Co
def od21 : Ords := []
theorem code21 : codeB Tryd.f21.ntmps od21 (match Tryd.f21.body with | some c => c | none => .skip) = true := by kernel_rfl
def od24 : Ords := []
theorem code24 : codeB Tryd.f24.ntmps od24 (match Tryd.f24.body with | some c => c | none => .skip) = true := by kernel_rfl
def od11 : Ords := []
theorem code11 : codeB Tryd.f11.ntmps od11 (match Tryd.f11.body with | some c => c | none => .skip) = true := by kernel_rfl
/-! ### texts, values -/
def sC (s : ByteArray) : List D := [sD s]
theorem sC_len (s : ByteArray) : (sC s).length = 1 := rfl
theorem sC_one (s : ByteArray) : ∀ d ∈ sC s, d.one = true := fun d h => by
  obtain rfl := List.mem_singleton.1 h
  rfl
theorem sE {l : List ByteArray} {i : Nat} {s : ByteArray} (h : l[i]? = some s) : Elem (flat sC l) [.str] (i * 1) 1 [sD s] := Elem.all sC_len h _ rfl ⟨rfl, True.intro⟩ rfl
theorem sl_len (l : List ByteArray) : (flat sC l).length = l.length := by rw [flat_length sC_len]; simp
abbrev Vl := Int × ByteArray
def vC (x : Vl) : List D := [nI x.1, sD x.2]
theorem vC_len (x : Vl) : (vC x).length = 2 := rfl
theorem vC_one (x : Vl) : ∀ d ∈ vC x, d.one = true := fun d h => by
  simp only [vC, List.mem_cons, List.not_mem_nil, or_false] at h
  rcases h with rfl | rfl <;> rfl
theorem vE {l : List Vl} {i : Nat} {x : Vl} (h : l[i]? = some x) : Elem (flat vC l) [.int .i64, .str] (i * 2) 2 [nI x.1, sD x.2] := Elem.all vC_len h _ rfl ⟨rfl, rfl, True.intro⟩ rfl
abbrev slS (l : List ByteArray) : AV := slF sC l
abbrev slV (l : List Vl) : AV := slF vC l
abbrev mt : ByteArray := ⟨#[]⟩
abbrev msgW : ByteArray := ⟨#[109, 115, 103]⟩
theorem maxI : IntKind.i64.max = 9223372036854775807 := by decide
/-- A message. -/
structure Mg where
  k : Int
  g : ByteArray
  any : Bool
  f : List ByteArray
  p : Int
  q : Int
  h : Int
  v : List Vl
  t : ByteArray
abbrev mgD (m : Mg) : List D := [nI m.k, sD m.g, .lit (.bool m.any), .sl m.f.length (flat sC m.f), nI m.p, nI m.q, nI m.h, .sl m.v.length (flat vC m.v), sD m.t]
abbrev mgG (m : Mg) : AV := .d (.agg (mgD m))
theorem ok21 (c : Int) : Go.Am.Pure Tryd.prog 21 [.d (nI c)] (.d (ftD msgW 0 c)) := by
  refine CallOk.of tysOk mixed od21 Tryd.func21 rfl rfl code21 ?_
  exact W.ret (RetQ.pure rfl rfl)
def plainB (m : Mg) : Bool := (m.p == 0) && (m.q == 0) && (m.h == 0) && ((m.v.length : Int) == 0) && (m.t.toList == mt.toList)
theorem ok24 (m : Mg) : Go.Am.Pure Tryd.prog 24 [mgG m] (bI (plainB m)) := by
  refine CallOk.of tysOk mixed od24 Tryd.func24 rfl rfl code24 ?_
  unfold plainB
  cases h1 : (m.p == 0) <;> cases h2 : (m.q == 0) <;> cases h3 : (m.h == 0) <;> cases h4 : ((m.v.length : Int) == 0)
  all_goals
    repeat (first | refine W.ite_t rfl ?_ | refine W.ite_f rfl ?_ | refine W.ite_t (by assumption) ?_ | refine W.ite_f (by assumption) ?_)
    exact W.ret (RetQ.pure rfl rfl)
def checkB (m : Mg) : Int :=
  bif (m.g.toList == mt.toList) || decide ((m.g.size : Int) > 40) then 1
  else bif ((m.k != 1) && (m.any || decide ((m.f.length : Int) > 0))) || ((m.k != 3) && (m.h != 0)) then 11
  else bif m.k == 1 then (bif (m.any && decide ((m.f.length : Int) > 0)) || decide ((m.f.length : Int) > 16) then 11 else bif plainB m then 0 else 11)
  else bif m.k == 2 then (bif plainB m then 0 else 11)
  else bif (m.k == 5) && (decide ((m.v.length : Int) > 0) || !(m.t.toList == mt.toList)) then 11
  else bif (m.k == 5) || (m.k == 3) || (m.k == 4) then
    (bif decide (m.p < 0) || decide (m.p ≥ 32) || decide (m.q < 1) || decide (m.q > 1073741824) || decide (m.h < 0) || decide (m.h > 65) then 1
     else bif decide ((m.v.length : Int) > 4) then 11 else 0)
  else 11
def errC (c : Int) : D := if c = 0 then .lit .nilIface else ftD msgW 0 c
theorem ch_ret (b : Int) {a : Int} (h : a = b) : mkRet [.d (errC b)] = .d (errC a) := by subst h; rfl
theorem nt_of {b : Bool} (h : b = true) : (!b) = false := by subst h; rfl
theorem nf_of {b : Bool} (h : b = false) : (!b) = true := by subst h; rfl
set_option maxHeartbeats 16000000 in
theorem ok11k1 (g : ByteArray) (any : Bool) (f : List ByteArray) (p q h : Int) (v : List Vl) (t : ByteArray) : Go.Am.Pure Tryd.prog 11 [mgG ⟨1, g, any, f, p, q, h, v, t⟩] (.d (errC (checkB ⟨1, g, any, f, p, q, h, v, t⟩))) := by
  refine CallOk.of tysOk mixed od11 Tryd.func11 rfl rfl code11 ?_
  have kp := ok24 ⟨1, g, any, f, p, q, h, v, t⟩
  repeat (first | refine W.ite_t rfl ?_ | refine W.ite_f rfl ?_)
  cases a1 : (g.toList == mt.toList) with
  | true =>
    repeat (first | refine W.ite_t a1 ?_ | refine W.ite_t rfl ?_ | refine W.ite_f rfl ?_)
    refine W.pure (ok21 1) rfl rfl ?_
    exact W.ret (RetQ.pure rfl (ch_ret 1 (by first | (simp only [checkB, a1]; rfl) | (simp only [checkB, a1]))))
  | false =>
  repeat (first | refine W.ite_f a1 ?_ | refine W.ite_t rfl ?_ | refine W.ite_f rfl ?_)
  cases a2 : decide ((g.size : Int) > 40) with
  | true =>
    repeat (first | refine W.ite_t a2 ?_ | refine W.ite_f a1 ?_ | refine W.ite_t rfl ?_ | refine W.ite_f rfl ?_)
    refine W.pure (ok21 1) rfl rfl ?_
    exact W.ret (RetQ.pure rfl (ch_ret 1 (by first | (simp only [checkB, a1, a2]; rfl) | (simp only [checkB, a1, a2]))))
  | false =>
  repeat (first | refine W.ite_f a2 ?_ | refine W.ite_f a1 ?_ | refine W.ite_t rfl ?_ | refine W.ite_f rfl ?_)
  cases b2 : (h != 0) with
  | true =>
    repeat (first | refine W.ite_t b2 ?_ | refine W.ite_f a2 ?_ | refine W.ite_f a1 ?_ | refine W.ite_t rfl ?_ | refine W.ite_f rfl ?_)
    refine W.pure (ok21 11) rfl rfl ?_
    exact W.ret (RetQ.pure rfl (ch_ret 11 (by first | (simp only [checkB, a1, a2, b2]; rfl) | (simp only [checkB, a1, a2, b2]))))
  | false =>
  repeat (first | refine W.ite_f b2 ?_ | refine W.ite_f a2 ?_ | refine W.ite_f a1 ?_ | refine W.ite_t rfl ?_ | refine W.ite_f rfl ?_)
  cases b0 : any with
  | true =>
    repeat (first | refine W.ite_t b0 ?_ | refine W.ite_f b2 ?_ | refine W.ite_f a2 ?_ | refine W.ite_f a1 ?_ | refine W.ite_t rfl ?_ | refine W.ite_f rfl ?_)
    cases b1 : decide ((f.length : Int) > 0) with
    | true =>
      repeat (first | refine W.ite_t b1 ?_ | refine W.ite_t b0 ?_ | refine W.ite_f b2 ?_ | refine W.ite_f a2 ?_ | refine W.ite_f a1 ?_ | refine W.ite_t rfl ?_ | refine W.ite_f rfl ?_)
      refine W.pure (ok21 11) rfl rfl ?_
      exact W.ret (RetQ.pure rfl (ch_ret 11 (by first | (simp only [checkB, a1, a2, b2, b0, b1]; rfl) | (simp only [checkB, a1, a2, b2, b0, b1]))))
    | false =>
    repeat (first | refine W.ite_f b1 ?_ | refine W.ite_t b0 ?_ | refine W.ite_f b2 ?_ | refine W.ite_f a2 ?_ | refine W.ite_f a1 ?_ | refine W.ite_t rfl ?_ | refine W.ite_f rfl ?_)
    cases c2 : decide ((f.length : Int) > 16) with
    | true =>
      repeat (first | refine W.ite_t c2 ?_ | refine W.ite_f b1 ?_ | refine W.ite_t b0 ?_ | refine W.ite_f b2 ?_ | refine W.ite_f a2 ?_ | refine W.ite_f a1 ?_ | refine W.ite_t rfl ?_ | refine W.ite_f rfl ?_)
      refine W.pure (ok21 11) rfl rfl ?_
      exact W.ret (RetQ.pure rfl (ch_ret 11 (by first | (simp only [checkB, a1, a2, b2, b0, b1, c2]; rfl) | (simp only [checkB, a1, a2, b2, b0, b1, c2]))))
    | false =>
    repeat (first | refine W.ite_f c2 ?_ | refine W.ite_f b1 ?_ | refine W.ite_t b0 ?_ | refine W.ite_f b2 ?_ | refine W.ite_f a2 ?_ | refine W.ite_f a1 ?_ | refine W.ite_t rfl ?_ | refine W.ite_f rfl ?_)
    refine W.pure (ok24 ⟨1, g, true, f, p, q, h, v, t⟩) rfl rfl ?_
    cases pl : plainB ⟨1, g, true, f, p, q, h, v, t⟩ with
    | true =>
      repeat (first | refine W.ite_t (not_of pl) ?_ | refine W.ite_f (nt_of pl) ?_ | refine W.ite_f c2 ?_ | refine W.ite_f b1 ?_ | refine W.ite_t b0 ?_ | refine W.ite_f b2 ?_ | refine W.ite_f a2 ?_ | refine W.ite_f a1 ?_ | refine W.ite_t rfl ?_ | refine W.ite_f rfl ?_)
      exact W.ret (RetQ.pure rfl (ch_ret 0 (by first | (simp only [checkB, a1, a2, b2, b0, b1, c2, pl]; rfl) | (simp only [checkB, a1, a2, b2, b0, b1, c2, pl]))))
    | false =>
      repeat (first | refine W.ite_t (not_of pl) ?_ | refine W.ite_t (nf_of pl) ?_ | refine W.ite_f c2 ?_ | refine W.ite_f b1 ?_ | refine W.ite_t b0 ?_ | refine W.ite_f b2 ?_ | refine W.ite_f a2 ?_ | refine W.ite_f a1 ?_ | refine W.ite_t rfl ?_ | refine W.ite_f rfl ?_)
      refine W.pure (ok21 11) rfl rfl ?_
      exact W.ret (RetQ.pure rfl (ch_ret 11 (by first | (simp only [checkB, a1, a2, b2, b0, b1, c2, pl]; rfl) | (simp only [checkB, a1, a2, b2, b0, b1, c2, pl]))))
  | false =>
    repeat (first | refine W.ite_f b0 ?_ | refine W.ite_f b2 ?_ | refine W.ite_f a2 ?_ | refine W.ite_f a1 ?_ | refine W.ite_t rfl ?_ | refine W.ite_f rfl ?_)
    cases c2 : decide ((f.length : Int) > 16) with
    | true =>
      repeat (first | refine W.ite_t c2 ?_ | refine W.ite_f b0 ?_ | refine W.ite_f b2 ?_ | refine W.ite_f a2 ?_ | refine W.ite_f a1 ?_ | refine W.ite_t rfl ?_ | refine W.ite_f rfl ?_)
      refine W.pure (ok21 11) rfl rfl ?_
      exact W.ret (RetQ.pure rfl (ch_ret 11 (by first | (simp only [checkB, a1, a2, b2, b0, c2]; rfl) | (simp only [checkB, a1, a2, b2, b0, c2]))))
    | false =>
    repeat (first | refine W.ite_f c2 ?_ | refine W.ite_f b0 ?_ | refine W.ite_f b2 ?_ | refine W.ite_f a2 ?_ | refine W.ite_f a1 ?_ | refine W.ite_t rfl ?_ | refine W.ite_f rfl ?_)
    refine W.pure (ok24 ⟨1, g, false, f, p, q, h, v, t⟩) rfl rfl ?_
    cases pl : plainB ⟨1, g, false, f, p, q, h, v, t⟩ with
    | true =>
      repeat (first | refine W.ite_t (not_of pl) ?_ | refine W.ite_f (nt_of pl) ?_ | refine W.ite_f c2 ?_ | refine W.ite_f b0 ?_ | refine W.ite_f b2 ?_ | refine W.ite_f a2 ?_ | refine W.ite_f a1 ?_ | refine W.ite_t rfl ?_ | refine W.ite_f rfl ?_)
      exact W.ret (RetQ.pure rfl (ch_ret 0 (by first | (simp only [checkB, a1, a2, b2, b0, c2, pl]; rfl) | (simp only [checkB, a1, a2, b2, b0, c2, pl]))))
    | false =>
      repeat (first | refine W.ite_t (not_of pl) ?_ | refine W.ite_t (nf_of pl) ?_ | refine W.ite_f c2 ?_ | refine W.ite_f b0 ?_ | refine W.ite_f b2 ?_ | refine W.ite_f a2 ?_ | refine W.ite_f a1 ?_ | refine W.ite_t rfl ?_ | refine W.ite_f rfl ?_)
      refine W.pure (ok21 11) rfl rfl ?_
      exact W.ret (RetQ.pure rfl (ch_ret 11 (by first | (simp only [checkB, a1, a2, b2, b0, c2, pl]; rfl) | (simp only [checkB, a1, a2, b2, b0, c2, pl]))))
set_option maxHeartbeats 16000000 in
theorem ok11k2 (g : ByteArray) (any : Bool) (f : List ByteArray) (p q h : Int) (v : List Vl) (t : ByteArray) : Go.Am.Pure Tryd.prog 11 [mgG ⟨2, g, any, f, p, q, h, v, t⟩] (.d (errC (checkB ⟨2, g, any, f, p, q, h, v, t⟩))) := by
  refine CallOk.of tysOk mixed od11 Tryd.func11 rfl rfl code11 ?_
  have kp := ok24 ⟨2, g, any, f, p, q, h, v, t⟩
  repeat (first | refine W.ite_t rfl ?_ | refine W.ite_f rfl ?_)
  cases a1 : (g.toList == mt.toList) with
  | true =>
    repeat (first | refine W.ite_t a1 ?_ | refine W.ite_t rfl ?_ | refine W.ite_f rfl ?_)
    refine W.pure (ok21 1) rfl rfl ?_
    exact W.ret (RetQ.pure rfl (ch_ret 1 (by first | (simp only [checkB, a1]; rfl) | (simp only [checkB, a1]))))
  | false =>
  repeat (first | refine W.ite_f a1 ?_ | refine W.ite_t rfl ?_ | refine W.ite_f rfl ?_)
  cases a2 : decide ((g.size : Int) > 40) with
  | true =>
    repeat (first | refine W.ite_t a2 ?_ | refine W.ite_f a1 ?_ | refine W.ite_t rfl ?_ | refine W.ite_f rfl ?_)
    refine W.pure (ok21 1) rfl rfl ?_
    exact W.ret (RetQ.pure rfl (ch_ret 1 (by first | (simp only [checkB, a1, a2]; rfl) | (simp only [checkB, a1, a2]))))
  | false =>
  repeat (first | refine W.ite_f a2 ?_ | refine W.ite_f a1 ?_ | refine W.ite_t rfl ?_ | refine W.ite_f rfl ?_)
  cases b0 : any with
  | true =>
    repeat (first | refine W.ite_t b0 ?_ | refine W.ite_f a2 ?_ | refine W.ite_f a1 ?_ | refine W.ite_t rfl ?_ | refine W.ite_f rfl ?_)
    refine W.pure (ok21 11) rfl rfl ?_
    exact W.ret (RetQ.pure rfl (ch_ret 11 (by first | (simp only [checkB, a1, a2, b0]; rfl) | (simp only [checkB, a1, a2, b0]))))
  | false =>
  repeat (first | refine W.ite_f b0 ?_ | refine W.ite_f a2 ?_ | refine W.ite_f a1 ?_ | refine W.ite_t rfl ?_ | refine W.ite_f rfl ?_)
  cases b1 : decide ((f.length : Int) > 0) with
  | true =>
    repeat (first | refine W.ite_t b1 ?_ | refine W.ite_f b0 ?_ | refine W.ite_f a2 ?_ | refine W.ite_f a1 ?_ | refine W.ite_t rfl ?_ | refine W.ite_f rfl ?_)
    refine W.pure (ok21 11) rfl rfl ?_
    exact W.ret (RetQ.pure rfl (ch_ret 11 (by first | (simp only [checkB, a1, a2, b0, b1]; rfl) | (simp only [checkB, a1, a2, b0, b1]))))
  | false =>
  repeat (first | refine W.ite_f b1 ?_ | refine W.ite_f b0 ?_ | refine W.ite_f a2 ?_ | refine W.ite_f a1 ?_ | refine W.ite_t rfl ?_ | refine W.ite_f rfl ?_)
  cases b2 : (h != 0) with
  | true =>
    repeat (first | refine W.ite_t b2 ?_ | refine W.ite_f b1 ?_ | refine W.ite_f b0 ?_ | refine W.ite_f a2 ?_ | refine W.ite_f a1 ?_ | refine W.ite_t rfl ?_ | refine W.ite_f rfl ?_)
    refine W.pure (ok21 11) rfl rfl ?_
    exact W.ret (RetQ.pure rfl (ch_ret 11 (by first | (simp only [checkB, a1, a2, b0, b1, b2]; rfl) | (simp only [checkB, a1, a2, b0, b1, b2]))))
  | false =>
  repeat (first | refine W.ite_f b2 ?_ | refine W.ite_f b1 ?_ | refine W.ite_f b0 ?_ | refine W.ite_f a2 ?_ | refine W.ite_f a1 ?_ | refine W.ite_t rfl ?_ | refine W.ite_f rfl ?_)
  refine W.pure (ok24 ⟨2, g, false, f, p, q, h, v, t⟩) rfl rfl ?_
  cases pl : plainB ⟨2, g, false, f, p, q, h, v, t⟩ with
  | true =>
    repeat (first | refine W.ite_t (not_of pl) ?_ | refine W.ite_f (nt_of pl) ?_ | refine W.ite_f b2 ?_ | refine W.ite_f b1 ?_ | refine W.ite_f b0 ?_ | refine W.ite_f a2 ?_ | refine W.ite_f a1 ?_ | refine W.ite_t rfl ?_ | refine W.ite_f rfl ?_)
    exact W.ret (RetQ.pure rfl (ch_ret 0 (by first | (simp only [checkB, a1, a2, b0, b1, b2, pl]; rfl) | (simp only [checkB, a1, a2, b0, b1, b2, pl]))))
  | false =>
    repeat (first | refine W.ite_t (not_of pl) ?_ | refine W.ite_t (nf_of pl) ?_ | refine W.ite_f b2 ?_ | refine W.ite_f b1 ?_ | refine W.ite_f b0 ?_ | refine W.ite_f a2 ?_ | refine W.ite_f a1 ?_ | refine W.ite_t rfl ?_ | refine W.ite_f rfl ?_)
    refine W.pure (ok21 11) rfl rfl ?_
    exact W.ret (RetQ.pure rfl (ch_ret 11 (by first | (simp only [checkB, a1, a2, b0, b1, b2, pl]; rfl) | (simp only [checkB, a1, a2, b0, b1, b2, pl]))))
set_option maxHeartbeats 16000000 in
theorem ok11k3 (g : ByteArray) (any : Bool) (f : List ByteArray) (p q h : Int) (v : List Vl) (t : ByteArray) : Go.Am.Pure Tryd.prog 11 [mgG ⟨3, g, any, f, p, q, h, v, t⟩] (.d (errC (checkB ⟨3, g, any, f, p, q, h, v, t⟩))) := by
  refine CallOk.of tysOk mixed od11 Tryd.func11 rfl rfl code11 ?_
  have kp := ok24 ⟨3, g, any, f, p, q, h, v, t⟩
  repeat (first | refine W.ite_t rfl ?_ | refine W.ite_f rfl ?_)
  cases a1 : (g.toList == mt.toList) with
  | true =>
    repeat (first | refine W.ite_t a1 ?_ | refine W.ite_t rfl ?_ | refine W.ite_f rfl ?_)
    refine W.pure (ok21 1) rfl rfl ?_
    exact W.ret (RetQ.pure rfl (ch_ret 1 (by first | (simp only [checkB, a1]; rfl) | (simp only [checkB, a1]))))
  | false =>
  repeat (first | refine W.ite_f a1 ?_ | refine W.ite_t rfl ?_ | refine W.ite_f rfl ?_)
  cases a2 : decide ((g.size : Int) > 40) with
  | true =>
    repeat (first | refine W.ite_t a2 ?_ | refine W.ite_f a1 ?_ | refine W.ite_t rfl ?_ | refine W.ite_f rfl ?_)
    refine W.pure (ok21 1) rfl rfl ?_
    exact W.ret (RetQ.pure rfl (ch_ret 1 (by first | (simp only [checkB, a1, a2]; rfl) | (simp only [checkB, a1, a2]))))
  | false =>
  repeat (first | refine W.ite_f a2 ?_ | refine W.ite_f a1 ?_ | refine W.ite_t rfl ?_ | refine W.ite_f rfl ?_)
  cases b0 : any with
  | true =>
    repeat (first | refine W.ite_t b0 ?_ | refine W.ite_f a2 ?_ | refine W.ite_f a1 ?_ | refine W.ite_t rfl ?_ | refine W.ite_f rfl ?_)
    refine W.pure (ok21 11) rfl rfl ?_
    exact W.ret (RetQ.pure rfl (ch_ret 11 (by first | (simp only [checkB, a1, a2, b0]; rfl) | (simp only [checkB, a1, a2, b0]))))
  | false =>
  repeat (first | refine W.ite_f b0 ?_ | refine W.ite_f a2 ?_ | refine W.ite_f a1 ?_ | refine W.ite_t rfl ?_ | refine W.ite_f rfl ?_)
  cases b1 : decide ((f.length : Int) > 0) with
  | true =>
    repeat (first | refine W.ite_t b1 ?_ | refine W.ite_f b0 ?_ | refine W.ite_f a2 ?_ | refine W.ite_f a1 ?_ | refine W.ite_t rfl ?_ | refine W.ite_f rfl ?_)
    refine W.pure (ok21 11) rfl rfl ?_
    exact W.ret (RetQ.pure rfl (ch_ret 11 (by first | (simp only [checkB, a1, a2, b0, b1]; rfl) | (simp only [checkB, a1, a2, b0, b1]))))
  | false =>
  repeat (first | refine W.ite_f b1 ?_ | refine W.ite_f b0 ?_ | refine W.ite_f a2 ?_ | refine W.ite_f a1 ?_ | refine W.ite_t rfl ?_ | refine W.ite_f rfl ?_)
  cases e1 : decide (p < 0) with
  | true =>
    repeat (first | refine W.ite_t e1 ?_ | refine W.ite_f b1 ?_ | refine W.ite_f b0 ?_ | refine W.ite_f a2 ?_ | refine W.ite_f a1 ?_ | refine W.ite_t rfl ?_ | refine W.ite_f rfl ?_)
    refine W.pure (ok21 1) rfl rfl ?_
    exact W.ret (RetQ.pure rfl (ch_ret 1 (by first | (simp only [checkB, a1, a2, b0, b1, e1]; rfl) | (simp only [checkB, a1, a2, b0, b1, e1]))))
  | false =>
  repeat (first | refine W.ite_f e1 ?_ | refine W.ite_f b1 ?_ | refine W.ite_f b0 ?_ | refine W.ite_f a2 ?_ | refine W.ite_f a1 ?_ | refine W.ite_t rfl ?_ | refine W.ite_f rfl ?_)
  cases e2 : decide (p ≥ 32) with
  | true =>
    repeat (first | refine W.ite_t e2 ?_ | refine W.ite_f e1 ?_ | refine W.ite_f b1 ?_ | refine W.ite_f b0 ?_ | refine W.ite_f a2 ?_ | refine W.ite_f a1 ?_ | refine W.ite_t rfl ?_ | refine W.ite_f rfl ?_)
    refine W.pure (ok21 1) rfl rfl ?_
    exact W.ret (RetQ.pure rfl (ch_ret 1 (by first | (simp only [checkB, a1, a2, b0, b1, e1, e2]; rfl) | (simp only [checkB, a1, a2, b0, b1, e1, e2]))))
  | false =>
  repeat (first | refine W.ite_f e2 ?_ | refine W.ite_f e1 ?_ | refine W.ite_f b1 ?_ | refine W.ite_f b0 ?_ | refine W.ite_f a2 ?_ | refine W.ite_f a1 ?_ | refine W.ite_t rfl ?_ | refine W.ite_f rfl ?_)
  cases e3 : decide (q < 1) with
  | true =>
    repeat (first | refine W.ite_t e3 ?_ | refine W.ite_f e2 ?_ | refine W.ite_f e1 ?_ | refine W.ite_f b1 ?_ | refine W.ite_f b0 ?_ | refine W.ite_f a2 ?_ | refine W.ite_f a1 ?_ | refine W.ite_t rfl ?_ | refine W.ite_f rfl ?_)
    refine W.pure (ok21 1) rfl rfl ?_
    exact W.ret (RetQ.pure rfl (ch_ret 1 (by first | (simp only [checkB, a1, a2, b0, b1, e1, e2, e3]; rfl) | (simp only [checkB, a1, a2, b0, b1, e1, e2, e3]))))
  | false =>
  repeat (first | refine W.ite_f e3 ?_ | refine W.ite_f e2 ?_ | refine W.ite_f e1 ?_ | refine W.ite_f b1 ?_ | refine W.ite_f b0 ?_ | refine W.ite_f a2 ?_ | refine W.ite_f a1 ?_ | refine W.ite_t rfl ?_ | refine W.ite_f rfl ?_)
  cases e4 : decide (q > 1073741824) with
  | true =>
    repeat (first | refine W.ite_t e4 ?_ | refine W.ite_f e3 ?_ | refine W.ite_f e2 ?_ | refine W.ite_f e1 ?_ | refine W.ite_f b1 ?_ | refine W.ite_f b0 ?_ | refine W.ite_f a2 ?_ | refine W.ite_f a1 ?_ | refine W.ite_t rfl ?_ | refine W.ite_f rfl ?_)
    refine W.pure (ok21 1) rfl rfl ?_
    exact W.ret (RetQ.pure rfl (ch_ret 1 (by first | (simp only [checkB, a1, a2, b0, b1, e1, e2, e3, e4]; rfl) | (simp only [checkB, a1, a2, b0, b1, e1, e2, e3, e4]))))
  | false =>
  repeat (first | refine W.ite_f e4 ?_ | refine W.ite_f e3 ?_ | refine W.ite_f e2 ?_ | refine W.ite_f e1 ?_ | refine W.ite_f b1 ?_ | refine W.ite_f b0 ?_ | refine W.ite_f a2 ?_ | refine W.ite_f a1 ?_ | refine W.ite_t rfl ?_ | refine W.ite_f rfl ?_)
  cases e5 : decide (h < 0) with
  | true =>
    repeat (first | refine W.ite_t e5 ?_ | refine W.ite_f e4 ?_ | refine W.ite_f e3 ?_ | refine W.ite_f e2 ?_ | refine W.ite_f e1 ?_ | refine W.ite_f b1 ?_ | refine W.ite_f b0 ?_ | refine W.ite_f a2 ?_ | refine W.ite_f a1 ?_ | refine W.ite_t rfl ?_ | refine W.ite_f rfl ?_)
    refine W.pure (ok21 1) rfl rfl ?_
    exact W.ret (RetQ.pure rfl (ch_ret 1 (by first | (simp only [checkB, a1, a2, b0, b1, e1, e2, e3, e4, e5]; rfl) | (simp only [checkB, a1, a2, b0, b1, e1, e2, e3, e4, e5]))))
  | false =>
  repeat (first | refine W.ite_f e5 ?_ | refine W.ite_f e4 ?_ | refine W.ite_f e3 ?_ | refine W.ite_f e2 ?_ | refine W.ite_f e1 ?_ | refine W.ite_f b1 ?_ | refine W.ite_f b0 ?_ | refine W.ite_f a2 ?_ | refine W.ite_f a1 ?_ | refine W.ite_t rfl ?_ | refine W.ite_f rfl ?_)
  cases e6 : decide (h > 65) with
  | true =>
    repeat (first | refine W.ite_t e6 ?_ | refine W.ite_f e5 ?_ | refine W.ite_f e4 ?_ | refine W.ite_f e3 ?_ | refine W.ite_f e2 ?_ | refine W.ite_f e1 ?_ | refine W.ite_f b1 ?_ | refine W.ite_f b0 ?_ | refine W.ite_f a2 ?_ | refine W.ite_f a1 ?_ | refine W.ite_t rfl ?_ | refine W.ite_f rfl ?_)
    refine W.pure (ok21 1) rfl rfl ?_
    exact W.ret (RetQ.pure rfl (ch_ret 1 (by first | (simp only [checkB, a1, a2, b0, b1, e1, e2, e3, e4, e5, e6]; rfl) | (simp only [checkB, a1, a2, b0, b1, e1, e2, e3, e4, e5, e6]))))
  | false =>
  repeat (first | refine W.ite_f e6 ?_ | refine W.ite_f e5 ?_ | refine W.ite_f e4 ?_ | refine W.ite_f e3 ?_ | refine W.ite_f e2 ?_ | refine W.ite_f e1 ?_ | refine W.ite_f b1 ?_ | refine W.ite_f b0 ?_ | refine W.ite_f a2 ?_ | refine W.ite_f a1 ?_ | refine W.ite_t rfl ?_ | refine W.ite_f rfl ?_)
  cases f1 : decide ((v.length : Int) > 4) with
  | true =>
    repeat (first | refine W.ite_t f1 ?_ | refine W.ite_f e6 ?_ | refine W.ite_f e5 ?_ | refine W.ite_f e4 ?_ | refine W.ite_f e3 ?_ | refine W.ite_f e2 ?_ | refine W.ite_f e1 ?_ | refine W.ite_f b1 ?_ | refine W.ite_f b0 ?_ | refine W.ite_f a2 ?_ | refine W.ite_f a1 ?_ | refine W.ite_t rfl ?_ | refine W.ite_f rfl ?_)
    refine W.pure (ok21 11) rfl rfl ?_
    exact W.ret (RetQ.pure rfl (ch_ret 11 (by first | (simp only [checkB, a1, a2, b0, b1, e1, e2, e3, e4, e5, e6, f1]; rfl) | (simp only [checkB, a1, a2, b0, b1, e1, e2, e3, e4, e5, e6, f1]))))
  | false =>
  repeat (first | refine W.ite_f f1 ?_ | refine W.ite_f e6 ?_ | refine W.ite_f e5 ?_ | refine W.ite_f e4 ?_ | refine W.ite_f e3 ?_ | refine W.ite_f e2 ?_ | refine W.ite_f e1 ?_ | refine W.ite_f b1 ?_ | refine W.ite_f b0 ?_ | refine W.ite_f a2 ?_ | refine W.ite_f a1 ?_ | refine W.ite_t rfl ?_ | refine W.ite_f rfl ?_)
  exact W.ret (RetQ.pure rfl (ch_ret 0 (by first | (simp only [checkB, a1, a2, b0, b1, e1, e2, e3, e4, e5, e6, f1]; rfl) | (simp only [checkB, a1, a2, b0, b1, e1, e2, e3, e4, e5, e6, f1]))))
set_option maxHeartbeats 16000000 in
theorem ok11k4 (g : ByteArray) (any : Bool) (f : List ByteArray) (p q h : Int) (v : List Vl) (t : ByteArray) : Go.Am.Pure Tryd.prog 11 [mgG ⟨4, g, any, f, p, q, h, v, t⟩] (.d (errC (checkB ⟨4, g, any, f, p, q, h, v, t⟩))) := by
  refine CallOk.of tysOk mixed od11 Tryd.func11 rfl rfl code11 ?_
  have kp := ok24 ⟨4, g, any, f, p, q, h, v, t⟩
  repeat (first | refine W.ite_t rfl ?_ | refine W.ite_f rfl ?_)
  cases a1 : (g.toList == mt.toList) with
  | true =>
    repeat (first | refine W.ite_t a1 ?_ | refine W.ite_t rfl ?_ | refine W.ite_f rfl ?_)
    refine W.pure (ok21 1) rfl rfl ?_
    exact W.ret (RetQ.pure rfl (ch_ret 1 (by first | (simp only [checkB, a1]; rfl) | (simp only [checkB, a1]))))
  | false =>
  repeat (first | refine W.ite_f a1 ?_ | refine W.ite_t rfl ?_ | refine W.ite_f rfl ?_)
  cases a2 : decide ((g.size : Int) > 40) with
  | true =>
    repeat (first | refine W.ite_t a2 ?_ | refine W.ite_f a1 ?_ | refine W.ite_t rfl ?_ | refine W.ite_f rfl ?_)
    refine W.pure (ok21 1) rfl rfl ?_
    exact W.ret (RetQ.pure rfl (ch_ret 1 (by first | (simp only [checkB, a1, a2]; rfl) | (simp only [checkB, a1, a2]))))
  | false =>
  repeat (first | refine W.ite_f a2 ?_ | refine W.ite_f a1 ?_ | refine W.ite_t rfl ?_ | refine W.ite_f rfl ?_)
  cases b0 : any with
  | true =>
    repeat (first | refine W.ite_t b0 ?_ | refine W.ite_f a2 ?_ | refine W.ite_f a1 ?_ | refine W.ite_t rfl ?_ | refine W.ite_f rfl ?_)
    refine W.pure (ok21 11) rfl rfl ?_
    exact W.ret (RetQ.pure rfl (ch_ret 11 (by first | (simp only [checkB, a1, a2, b0]; rfl) | (simp only [checkB, a1, a2, b0]))))
  | false =>
  repeat (first | refine W.ite_f b0 ?_ | refine W.ite_f a2 ?_ | refine W.ite_f a1 ?_ | refine W.ite_t rfl ?_ | refine W.ite_f rfl ?_)
  cases b1 : decide ((f.length : Int) > 0) with
  | true =>
    repeat (first | refine W.ite_t b1 ?_ | refine W.ite_f b0 ?_ | refine W.ite_f a2 ?_ | refine W.ite_f a1 ?_ | refine W.ite_t rfl ?_ | refine W.ite_f rfl ?_)
    refine W.pure (ok21 11) rfl rfl ?_
    exact W.ret (RetQ.pure rfl (ch_ret 11 (by first | (simp only [checkB, a1, a2, b0, b1]; rfl) | (simp only [checkB, a1, a2, b0, b1]))))
  | false =>
  repeat (first | refine W.ite_f b1 ?_ | refine W.ite_f b0 ?_ | refine W.ite_f a2 ?_ | refine W.ite_f a1 ?_ | refine W.ite_t rfl ?_ | refine W.ite_f rfl ?_)
  cases b2 : (h != 0) with
  | true =>
    repeat (first | refine W.ite_t b2 ?_ | refine W.ite_f b1 ?_ | refine W.ite_f b0 ?_ | refine W.ite_f a2 ?_ | refine W.ite_f a1 ?_ | refine W.ite_t rfl ?_ | refine W.ite_f rfl ?_)
    refine W.pure (ok21 11) rfl rfl ?_
    exact W.ret (RetQ.pure rfl (ch_ret 11 (by first | (simp only [checkB, a1, a2, b0, b1, b2]; rfl) | (simp only [checkB, a1, a2, b0, b1, b2]))))
  | false =>
  repeat (first | refine W.ite_f b2 ?_ | refine W.ite_f b1 ?_ | refine W.ite_f b0 ?_ | refine W.ite_f a2 ?_ | refine W.ite_f a1 ?_ | refine W.ite_t rfl ?_ | refine W.ite_f rfl ?_)
  cases e1 : decide (p < 0) with
  | true =>
    repeat (first | refine W.ite_t e1 ?_ | refine W.ite_f b2 ?_ | refine W.ite_f b1 ?_ | refine W.ite_f b0 ?_ | refine W.ite_f a2 ?_ | refine W.ite_f a1 ?_ | refine W.ite_t rfl ?_ | refine W.ite_f rfl ?_)
    refine W.pure (ok21 1) rfl rfl ?_
    exact W.ret (RetQ.pure rfl (ch_ret 1 (by first | (simp only [checkB, a1, a2, b0, b1, b2, e1]; rfl) | (simp only [checkB, a1, a2, b0, b1, b2, e1]))))
  | false =>
  repeat (first | refine W.ite_f e1 ?_ | refine W.ite_f b2 ?_ | refine W.ite_f b1 ?_ | refine W.ite_f b0 ?_ | refine W.ite_f a2 ?_ | refine W.ite_f a1 ?_ | refine W.ite_t rfl ?_ | refine W.ite_f rfl ?_)
  cases e2 : decide (p ≥ 32) with
  | true =>
    repeat (first | refine W.ite_t e2 ?_ | refine W.ite_f e1 ?_ | refine W.ite_f b2 ?_ | refine W.ite_f b1 ?_ | refine W.ite_f b0 ?_ | refine W.ite_f a2 ?_ | refine W.ite_f a1 ?_ | refine W.ite_t rfl ?_ | refine W.ite_f rfl ?_)
    refine W.pure (ok21 1) rfl rfl ?_
    exact W.ret (RetQ.pure rfl (ch_ret 1 (by first | (simp only [checkB, a1, a2, b0, b1, b2, e1, e2]; rfl) | (simp only [checkB, a1, a2, b0, b1, b2, e1, e2]))))
  | false =>
  repeat (first | refine W.ite_f e2 ?_ | refine W.ite_f e1 ?_ | refine W.ite_f b2 ?_ | refine W.ite_f b1 ?_ | refine W.ite_f b0 ?_ | refine W.ite_f a2 ?_ | refine W.ite_f a1 ?_ | refine W.ite_t rfl ?_ | refine W.ite_f rfl ?_)
  cases e3 : decide (q < 1) with
  | true =>
    repeat (first | refine W.ite_t e3 ?_ | refine W.ite_f e2 ?_ | refine W.ite_f e1 ?_ | refine W.ite_f b2 ?_ | refine W.ite_f b1 ?_ | refine W.ite_f b0 ?_ | refine W.ite_f a2 ?_ | refine W.ite_f a1 ?_ | refine W.ite_t rfl ?_ | refine W.ite_f rfl ?_)
    refine W.pure (ok21 1) rfl rfl ?_
    exact W.ret (RetQ.pure rfl (ch_ret 1 (by first | (simp only [checkB, a1, a2, b0, b1, b2, e1, e2, e3]; rfl) | (simp only [checkB, a1, a2, b0, b1, b2, e1, e2, e3]))))
  | false =>
  repeat (first | refine W.ite_f e3 ?_ | refine W.ite_f e2 ?_ | refine W.ite_f e1 ?_ | refine W.ite_f b2 ?_ | refine W.ite_f b1 ?_ | refine W.ite_f b0 ?_ | refine W.ite_f a2 ?_ | refine W.ite_f a1 ?_ | refine W.ite_t rfl ?_ | refine W.ite_f rfl ?_)
  cases e4 : decide (q > 1073741824) with
  | true =>
    repeat (first | refine W.ite_t e4 ?_ | refine W.ite_f e3 ?_ | refine W.ite_f e2 ?_ | refine W.ite_f e1 ?_ | refine W.ite_f b2 ?_ | refine W.ite_f b1 ?_ | refine W.ite_f b0 ?_ | refine W.ite_f a2 ?_ | refine W.ite_f a1 ?_ | refine W.ite_t rfl ?_ | refine W.ite_f rfl ?_)
    refine W.pure (ok21 1) rfl rfl ?_
    exact W.ret (RetQ.pure rfl (ch_ret 1 (by first | (simp only [checkB, a1, a2, b0, b1, b2, e1, e2, e3, e4]; rfl) | (simp only [checkB, a1, a2, b0, b1, b2, e1, e2, e3, e4]))))
  | false =>
  repeat (first | refine W.ite_f e4 ?_ | refine W.ite_f e3 ?_ | refine W.ite_f e2 ?_ | refine W.ite_f e1 ?_ | refine W.ite_f b2 ?_ | refine W.ite_f b1 ?_ | refine W.ite_f b0 ?_ | refine W.ite_f a2 ?_ | refine W.ite_f a1 ?_ | refine W.ite_t rfl ?_ | refine W.ite_f rfl ?_)
  cases e5 : decide (h < 0) with
  | true =>
    repeat (first | refine W.ite_t e5 ?_ | refine W.ite_f e4 ?_ | refine W.ite_f e3 ?_ | refine W.ite_f e2 ?_ | refine W.ite_f e1 ?_ | refine W.ite_f b2 ?_ | refine W.ite_f b1 ?_ | refine W.ite_f b0 ?_ | refine W.ite_f a2 ?_ | refine W.ite_f a1 ?_ | refine W.ite_t rfl ?_ | refine W.ite_f rfl ?_)
    refine W.pure (ok21 1) rfl rfl ?_
    exact W.ret (RetQ.pure rfl (ch_ret 1 (by first | (simp only [checkB, a1, a2, b0, b1, b2, e1, e2, e3, e4, e5]; rfl) | (simp only [checkB, a1, a2, b0, b1, b2, e1, e2, e3, e4, e5]))))
  | false =>
  repeat (first | refine W.ite_f e5 ?_ | refine W.ite_f e4 ?_ | refine W.ite_f e3 ?_ | refine W.ite_f e2 ?_ | refine W.ite_f e1 ?_ | refine W.ite_f b2 ?_ | refine W.ite_f b1 ?_ | refine W.ite_f b0 ?_ | refine W.ite_f a2 ?_ | refine W.ite_f a1 ?_ | refine W.ite_t rfl ?_ | refine W.ite_f rfl ?_)
  cases e6 : decide (h > 65) with
  | true =>
    repeat (first | refine W.ite_t e6 ?_ | refine W.ite_f e5 ?_ | refine W.ite_f e4 ?_ | refine W.ite_f e3 ?_ | refine W.ite_f e2 ?_ | refine W.ite_f e1 ?_ | refine W.ite_f b2 ?_ | refine W.ite_f b1 ?_ | refine W.ite_f b0 ?_ | refine W.ite_f a2 ?_ | refine W.ite_f a1 ?_ | refine W.ite_t rfl ?_ | refine W.ite_f rfl ?_)
    refine W.pure (ok21 1) rfl rfl ?_
    exact W.ret (RetQ.pure rfl (ch_ret 1 (by first | (simp only [checkB, a1, a2, b0, b1, b2, e1, e2, e3, e4, e5, e6]; rfl) | (simp only [checkB, a1, a2, b0, b1, b2, e1, e2, e3, e4, e5, e6]))))
  | false =>
  repeat (first | refine W.ite_f e6 ?_ | refine W.ite_f e5 ?_ | refine W.ite_f e4 ?_ | refine W.ite_f e3 ?_ | refine W.ite_f e2 ?_ | refine W.ite_f e1 ?_ | refine W.ite_f b2 ?_ | refine W.ite_f b1 ?_ | refine W.ite_f b0 ?_ | refine W.ite_f a2 ?_ | refine W.ite_f a1 ?_ | refine W.ite_t rfl ?_ | refine W.ite_f rfl ?_)
  cases f1 : decide ((v.length : Int) > 4) with
  | true =>
    repeat (first | refine W.ite_t f1 ?_ | refine W.ite_f e6 ?_ | refine W.ite_f e5 ?_ | refine W.ite_f e4 ?_ | refine W.ite_f e3 ?_ | refine W.ite_f e2 ?_ | refine W.ite_f e1 ?_ | refine W.ite_f b2 ?_ | refine W.ite_f b1 ?_ | refine W.ite_f b0 ?_ | refine W.ite_f a2 ?_ | refine W.ite_f a1 ?_ | refine W.ite_t rfl ?_ | refine W.ite_f rfl ?_)
    refine W.pure (ok21 11) rfl rfl ?_
    exact W.ret (RetQ.pure rfl (ch_ret 11 (by first | (simp only [checkB, a1, a2, b0, b1, b2, e1, e2, e3, e4, e5, e6, f1]; rfl) | (simp only [checkB, a1, a2, b0, b1, b2, e1, e2, e3, e4, e5, e6, f1]))))
  | false =>
  repeat (first | refine W.ite_f f1 ?_ | refine W.ite_f e6 ?_ | refine W.ite_f e5 ?_ | refine W.ite_f e4 ?_ | refine W.ite_f e3 ?_ | refine W.ite_f e2 ?_ | refine W.ite_f e1 ?_ | refine W.ite_f b2 ?_ | refine W.ite_f b1 ?_ | refine W.ite_f b0 ?_ | refine W.ite_f a2 ?_ | refine W.ite_f a1 ?_ | refine W.ite_t rfl ?_ | refine W.ite_f rfl ?_)
  exact W.ret (RetQ.pure rfl (ch_ret 0 (by first | (simp only [checkB, a1, a2, b0, b1, b2, e1, e2, e3, e4, e5, e6, f1]; rfl) | (simp only [checkB, a1, a2, b0, b1, b2, e1, e2, e3, e4, e5, e6, f1]))))
set_option maxHeartbeats 16000000 in
theorem ok11k5 (g : ByteArray) (any : Bool) (f : List ByteArray) (p q h : Int) (v : List Vl) (t : ByteArray) : Go.Am.Pure Tryd.prog 11 [mgG ⟨5, g, any, f, p, q, h, v, t⟩] (.d (errC (checkB ⟨5, g, any, f, p, q, h, v, t⟩))) := by
  refine CallOk.of tysOk mixed od11 Tryd.func11 rfl rfl code11 ?_
  have kp := ok24 ⟨5, g, any, f, p, q, h, v, t⟩
  repeat (first | refine W.ite_t rfl ?_ | refine W.ite_f rfl ?_)
  cases a1 : (g.toList == mt.toList) with
  | true =>
    repeat (first | refine W.ite_t a1 ?_ | refine W.ite_t rfl ?_ | refine W.ite_f rfl ?_)
    refine W.pure (ok21 1) rfl rfl ?_
    exact W.ret (RetQ.pure rfl (ch_ret 1 (by first | (simp only [checkB, a1]; rfl) | (simp only [checkB, a1]))))
  | false =>
  repeat (first | refine W.ite_f a1 ?_ | refine W.ite_t rfl ?_ | refine W.ite_f rfl ?_)
  cases a2 : decide ((g.size : Int) > 40) with
  | true =>
    repeat (first | refine W.ite_t a2 ?_ | refine W.ite_f a1 ?_ | refine W.ite_t rfl ?_ | refine W.ite_f rfl ?_)
    refine W.pure (ok21 1) rfl rfl ?_
    exact W.ret (RetQ.pure rfl (ch_ret 1 (by first | (simp only [checkB, a1, a2]; rfl) | (simp only [checkB, a1, a2]))))
  | false =>
  repeat (first | refine W.ite_f a2 ?_ | refine W.ite_f a1 ?_ | refine W.ite_t rfl ?_ | refine W.ite_f rfl ?_)
  cases b0 : any with
  | true =>
    repeat (first | refine W.ite_t b0 ?_ | refine W.ite_f a2 ?_ | refine W.ite_f a1 ?_ | refine W.ite_t rfl ?_ | refine W.ite_f rfl ?_)
    refine W.pure (ok21 11) rfl rfl ?_
    exact W.ret (RetQ.pure rfl (ch_ret 11 (by first | (simp only [checkB, a1, a2, b0]; rfl) | (simp only [checkB, a1, a2, b0]))))
  | false =>
  repeat (first | refine W.ite_f b0 ?_ | refine W.ite_f a2 ?_ | refine W.ite_f a1 ?_ | refine W.ite_t rfl ?_ | refine W.ite_f rfl ?_)
  cases b1 : decide ((f.length : Int) > 0) with
  | true =>
    repeat (first | refine W.ite_t b1 ?_ | refine W.ite_f b0 ?_ | refine W.ite_f a2 ?_ | refine W.ite_f a1 ?_ | refine W.ite_t rfl ?_ | refine W.ite_f rfl ?_)
    refine W.pure (ok21 11) rfl rfl ?_
    exact W.ret (RetQ.pure rfl (ch_ret 11 (by first | (simp only [checkB, a1, a2, b0, b1]; rfl) | (simp only [checkB, a1, a2, b0, b1]))))
  | false =>
  repeat (first | refine W.ite_f b1 ?_ | refine W.ite_f b0 ?_ | refine W.ite_f a2 ?_ | refine W.ite_f a1 ?_ | refine W.ite_t rfl ?_ | refine W.ite_f rfl ?_)
  cases b2 : (h != 0) with
  | true =>
    repeat (first | refine W.ite_t b2 ?_ | refine W.ite_f b1 ?_ | refine W.ite_f b0 ?_ | refine W.ite_f a2 ?_ | refine W.ite_f a1 ?_ | refine W.ite_t rfl ?_ | refine W.ite_f rfl ?_)
    refine W.pure (ok21 11) rfl rfl ?_
    exact W.ret (RetQ.pure rfl (ch_ret 11 (by first | (simp only [checkB, a1, a2, b0, b1, b2]; rfl) | (simp only [checkB, a1, a2, b0, b1, b2]))))
  | false =>
  repeat (first | refine W.ite_f b2 ?_ | refine W.ite_f b1 ?_ | refine W.ite_f b0 ?_ | refine W.ite_f a2 ?_ | refine W.ite_f a1 ?_ | refine W.ite_t rfl ?_ | refine W.ite_f rfl ?_)
  cases d1 : decide ((v.length : Int) > 0) with
  | true =>
    repeat (first | refine W.ite_t d1 ?_ | refine W.ite_f b2 ?_ | refine W.ite_f b1 ?_ | refine W.ite_f b0 ?_ | refine W.ite_f a2 ?_ | refine W.ite_f a1 ?_ | refine W.ite_t rfl ?_ | refine W.ite_f rfl ?_)
    refine W.pure (ok21 11) rfl rfl ?_
    exact W.ret (RetQ.pure rfl (ch_ret 11 (by first | (simp only [checkB, a1, a2, b0, b1, b2, d1]; rfl) | (simp only [checkB, a1, a2, b0, b1, b2, d1]))))
  | false =>
  repeat (first | refine W.ite_f d1 ?_ | refine W.ite_f b2 ?_ | refine W.ite_f b1 ?_ | refine W.ite_f b0 ?_ | refine W.ite_f a2 ?_ | refine W.ite_f a1 ?_ | refine W.ite_t rfl ?_ | refine W.ite_f rfl ?_)
  cases d2 : (!(t.toList == mt.toList)) with
  | true =>
    repeat (first | refine W.ite_t d2 ?_ | refine W.ite_f d1 ?_ | refine W.ite_f b2 ?_ | refine W.ite_f b1 ?_ | refine W.ite_f b0 ?_ | refine W.ite_f a2 ?_ | refine W.ite_f a1 ?_ | refine W.ite_t rfl ?_ | refine W.ite_f rfl ?_)
    refine W.pure (ok21 11) rfl rfl ?_
    exact W.ret (RetQ.pure rfl (ch_ret 11 (by first | (simp only [checkB, a1, a2, b0, b1, b2, d1, d2]; rfl) | (simp only [checkB, a1, a2, b0, b1, b2, d1, d2]))))
  | false =>
  repeat (first | refine W.ite_f d2 ?_ | refine W.ite_f d1 ?_ | refine W.ite_f b2 ?_ | refine W.ite_f b1 ?_ | refine W.ite_f b0 ?_ | refine W.ite_f a2 ?_ | refine W.ite_f a1 ?_ | refine W.ite_t rfl ?_ | refine W.ite_f rfl ?_)
  cases e1 : decide (p < 0) with
  | true =>
    repeat (first | refine W.ite_t e1 ?_ | refine W.ite_f d2 ?_ | refine W.ite_f d1 ?_ | refine W.ite_f b2 ?_ | refine W.ite_f b1 ?_ | refine W.ite_f b0 ?_ | refine W.ite_f a2 ?_ | refine W.ite_f a1 ?_ | refine W.ite_t rfl ?_ | refine W.ite_f rfl ?_)
    refine W.pure (ok21 1) rfl rfl ?_
    exact W.ret (RetQ.pure rfl (ch_ret 1 (by first | (simp only [checkB, a1, a2, b0, b1, b2, d1, d2, e1]; rfl) | (simp only [checkB, a1, a2, b0, b1, b2, d1, d2, e1]))))
  | false =>
  repeat (first | refine W.ite_f e1 ?_ | refine W.ite_f d2 ?_ | refine W.ite_f d1 ?_ | refine W.ite_f b2 ?_ | refine W.ite_f b1 ?_ | refine W.ite_f b0 ?_ | refine W.ite_f a2 ?_ | refine W.ite_f a1 ?_ | refine W.ite_t rfl ?_ | refine W.ite_f rfl ?_)
  cases e2 : decide (p ≥ 32) with
  | true =>
    repeat (first | refine W.ite_t e2 ?_ | refine W.ite_f e1 ?_ | refine W.ite_f d2 ?_ | refine W.ite_f d1 ?_ | refine W.ite_f b2 ?_ | refine W.ite_f b1 ?_ | refine W.ite_f b0 ?_ | refine W.ite_f a2 ?_ | refine W.ite_f a1 ?_ | refine W.ite_t rfl ?_ | refine W.ite_f rfl ?_)
    refine W.pure (ok21 1) rfl rfl ?_
    exact W.ret (RetQ.pure rfl (ch_ret 1 (by first | (simp only [checkB, a1, a2, b0, b1, b2, d1, d2, e1, e2]; rfl) | (simp only [checkB, a1, a2, b0, b1, b2, d1, d2, e1, e2]))))
  | false =>
  repeat (first | refine W.ite_f e2 ?_ | refine W.ite_f e1 ?_ | refine W.ite_f d2 ?_ | refine W.ite_f d1 ?_ | refine W.ite_f b2 ?_ | refine W.ite_f b1 ?_ | refine W.ite_f b0 ?_ | refine W.ite_f a2 ?_ | refine W.ite_f a1 ?_ | refine W.ite_t rfl ?_ | refine W.ite_f rfl ?_)
  cases e3 : decide (q < 1) with
  | true =>
    repeat (first | refine W.ite_t e3 ?_ | refine W.ite_f e2 ?_ | refine W.ite_f e1 ?_ | refine W.ite_f d2 ?_ | refine W.ite_f d1 ?_ | refine W.ite_f b2 ?_ | refine W.ite_f b1 ?_ | refine W.ite_f b0 ?_ | refine W.ite_f a2 ?_ | refine W.ite_f a1 ?_ | refine W.ite_t rfl ?_ | refine W.ite_f rfl ?_)
    refine W.pure (ok21 1) rfl rfl ?_
    exact W.ret (RetQ.pure rfl (ch_ret 1 (by first | (simp only [checkB, a1, a2, b0, b1, b2, d1, d2, e1, e2, e3]; rfl) | (simp only [checkB, a1, a2, b0, b1, b2, d1, d2, e1, e2, e3]))))
  | false =>
  repeat (first | refine W.ite_f e3 ?_ | refine W.ite_f e2 ?_ | refine W.ite_f e1 ?_ | refine W.ite_f d2 ?_ | refine W.ite_f d1 ?_ | refine W.ite_f b2 ?_ | refine W.ite_f b1 ?_ | refine W.ite_f b0 ?_ | refine W.ite_f a2 ?_ | refine W.ite_f a1 ?_ | refine W.ite_t rfl ?_ | refine W.ite_f rfl ?_)
  cases e4 : decide (q > 1073741824) with
  | true =>
    repeat (first | refine W.ite_t e4 ?_ | refine W.ite_f e3 ?_ | refine W.ite_f e2 ?_ | refine W.ite_f e1 ?_ | refine W.ite_f d2 ?_ | refine W.ite_f d1 ?_ | refine W.ite_f b2 ?_ | refine W.ite_f b1 ?_ | refine W.ite_f b0 ?_ | refine W.ite_f a2 ?_ | refine W.ite_f a1 ?_ | refine W.ite_t rfl ?_ | refine W.ite_f rfl ?_)
    refine W.pure (ok21 1) rfl rfl ?_
    exact W.ret (RetQ.pure rfl (ch_ret 1 (by first | (simp only [checkB, a1, a2, b0, b1, b2, d1, d2, e1, e2, e3, e4]; rfl) | (simp only [checkB, a1, a2, b0, b1, b2, d1, d2, e1, e2, e3, e4]))))
  | false =>
  repeat (first | refine W.ite_f e4 ?_ | refine W.ite_f e3 ?_ | refine W.ite_f e2 ?_ | refine W.ite_f e1 ?_ | refine W.ite_f d2 ?_ | refine W.ite_f d1 ?_ | refine W.ite_f b2 ?_ | refine W.ite_f b1 ?_ | refine W.ite_f b0 ?_ | refine W.ite_f a2 ?_ | refine W.ite_f a1 ?_ | refine W.ite_t rfl ?_ | refine W.ite_f rfl ?_)
  cases e5 : decide (h < 0) with
  | true =>
    repeat (first | refine W.ite_t e5 ?_ | refine W.ite_f e4 ?_ | refine W.ite_f e3 ?_ | refine W.ite_f e2 ?_ | refine W.ite_f e1 ?_ | refine W.ite_f d2 ?_ | refine W.ite_f d1 ?_ | refine W.ite_f b2 ?_ | refine W.ite_f b1 ?_ | refine W.ite_f b0 ?_ | refine W.ite_f a2 ?_ | refine W.ite_f a1 ?_ | refine W.ite_t rfl ?_ | refine W.ite_f rfl ?_)
    refine W.pure (ok21 1) rfl rfl ?_
    exact W.ret (RetQ.pure rfl (ch_ret 1 (by first | (simp only [checkB, a1, a2, b0, b1, b2, d1, d2, e1, e2, e3, e4, e5]; rfl) | (simp only [checkB, a1, a2, b0, b1, b2, d1, d2, e1, e2, e3, e4, e5]))))
  | false =>
  repeat (first | refine W.ite_f e5 ?_ | refine W.ite_f e4 ?_ | refine W.ite_f e3 ?_ | refine W.ite_f e2 ?_ | refine W.ite_f e1 ?_ | refine W.ite_f d2 ?_ | refine W.ite_f d1 ?_ | refine W.ite_f b2 ?_ | refine W.ite_f b1 ?_ | refine W.ite_f b0 ?_ | refine W.ite_f a2 ?_ | refine W.ite_f a1 ?_ | refine W.ite_t rfl ?_ | refine W.ite_f rfl ?_)
  cases e6 : decide (h > 65) with
  | true =>
    repeat (first | refine W.ite_t e6 ?_ | refine W.ite_f e5 ?_ | refine W.ite_f e4 ?_ | refine W.ite_f e3 ?_ | refine W.ite_f e2 ?_ | refine W.ite_f e1 ?_ | refine W.ite_f d2 ?_ | refine W.ite_f d1 ?_ | refine W.ite_f b2 ?_ | refine W.ite_f b1 ?_ | refine W.ite_f b0 ?_ | refine W.ite_f a2 ?_ | refine W.ite_f a1 ?_ | refine W.ite_t rfl ?_ | refine W.ite_f rfl ?_)
    refine W.pure (ok21 1) rfl rfl ?_
    exact W.ret (RetQ.pure rfl (ch_ret 1 (by first | (simp only [checkB, a1, a2, b0, b1, b2, d1, d2, e1, e2, e3, e4, e5, e6]; rfl) | (simp only [checkB, a1, a2, b0, b1, b2, d1, d2, e1, e2, e3, e4, e5, e6]))))
  | false =>
  repeat (first | refine W.ite_f e6 ?_ | refine W.ite_f e5 ?_ | refine W.ite_f e4 ?_ | refine W.ite_f e3 ?_ | refine W.ite_f e2 ?_ | refine W.ite_f e1 ?_ | refine W.ite_f d2 ?_ | refine W.ite_f d1 ?_ | refine W.ite_f b2 ?_ | refine W.ite_f b1 ?_ | refine W.ite_f b0 ?_ | refine W.ite_f a2 ?_ | refine W.ite_f a1 ?_ | refine W.ite_t rfl ?_ | refine W.ite_f rfl ?_)
  cases f1 : decide ((v.length : Int) > 4) with
  | true =>
    repeat (first | refine W.ite_t f1 ?_ | refine W.ite_f e6 ?_ | refine W.ite_f e5 ?_ | refine W.ite_f e4 ?_ | refine W.ite_f e3 ?_ | refine W.ite_f e2 ?_ | refine W.ite_f e1 ?_ | refine W.ite_f d2 ?_ | refine W.ite_f d1 ?_ | refine W.ite_f b2 ?_ | refine W.ite_f b1 ?_ | refine W.ite_f b0 ?_ | refine W.ite_f a2 ?_ | refine W.ite_f a1 ?_ | refine W.ite_t rfl ?_ | refine W.ite_f rfl ?_)
    refine W.pure (ok21 11) rfl rfl ?_
    exact W.ret (RetQ.pure rfl (ch_ret 11 (by first | (simp only [checkB, a1, a2, b0, b1, b2, d1, d2, e1, e2, e3, e4, e5, e6, f1]; rfl) | (simp only [checkB, a1, a2, b0, b1, b2, d1, d2, e1, e2, e3, e4, e5, e6, f1]))))
  | false =>
  repeat (first | refine W.ite_f f1 ?_ | refine W.ite_f e6 ?_ | refine W.ite_f e5 ?_ | refine W.ite_f e4 ?_ | refine W.ite_f e3 ?_ | refine W.ite_f e2 ?_ | refine W.ite_f e1 ?_ | refine W.ite_f d2 ?_ | refine W.ite_f d1 ?_ | refine W.ite_f b2 ?_ | refine W.ite_f b1 ?_ | refine W.ite_f b0 ?_ | refine W.ite_f a2 ?_ | refine W.ite_f a1 ?_ | refine W.ite_t rfl ?_ | refine W.ite_f rfl ?_)
  exact W.ret (RetQ.pure rfl (ch_ret 0 (by first | (simp only [checkB, a1, a2, b0, b1, b2, d1, d2, e1, e2, e3, e4, e5, e6, f1]; rfl) | (simp only [checkB, a1, a2, b0, b1, b2, d1, d2, e1, e2, e3, e4, e5, e6, f1]))))
set_option maxHeartbeats 16000000 in
theorem ok11kk (g : ByteArray) (any : Bool) (f : List ByteArray) (p q h : Int) (v : List Vl) (t : ByteArray) (k : Int) (k1 : (k == 1) = false) (k2 : (k == 2) = false) (k3 : (k == 3) = false) (k4 : (k == 4) = false) (k5 : (k == 5) = false) (n1 : (k != 1) = true) (n3 : (k != 3) = true) : Go.Am.Pure Tryd.prog 11 [mgG ⟨k, g, any, f, p, q, h, v, t⟩] (.d (errC (checkB ⟨k, g, any, f, p, q, h, v, t⟩))) := by
  refine CallOk.of tysOk mixed od11 Tryd.func11 rfl rfl code11 ?_
  have kp := ok24 ⟨k, g, any, f, p, q, h, v, t⟩
  repeat (first | refine W.ite_t n3 ?_ | refine W.ite_t n1 ?_ | refine W.ite_f k5 ?_ | refine W.ite_f k4 ?_ | refine W.ite_f k3 ?_ | refine W.ite_f k2 ?_ | refine W.ite_f k1 ?_ | refine W.ite_t rfl ?_ | refine W.ite_f rfl ?_)
  cases a1 : (g.toList == mt.toList) with
  | true =>
    repeat (first | refine W.ite_t a1 ?_ | refine W.ite_t n3 ?_ | refine W.ite_t n1 ?_ | refine W.ite_f k5 ?_ | refine W.ite_f k4 ?_ | refine W.ite_f k3 ?_ | refine W.ite_f k2 ?_ | refine W.ite_f k1 ?_ | refine W.ite_t rfl ?_ | refine W.ite_f rfl ?_)
    refine W.pure (ok21 1) rfl rfl ?_
    exact W.ret (RetQ.pure rfl (ch_ret 1 (by first | (simp only [checkB, k1, k2, k3, k4, k5, n1, n3, a1]; rfl) | (simp only [checkB, k1, k2, k3, k4, k5, n1, n3, a1]))))
  | false =>
  repeat (first | refine W.ite_f a1 ?_ | refine W.ite_t n3 ?_ | refine W.ite_t n1 ?_ | refine W.ite_f k5 ?_ | refine W.ite_f k4 ?_ | refine W.ite_f k3 ?_ | refine W.ite_f k2 ?_ | refine W.ite_f k1 ?_ | refine W.ite_t rfl ?_ | refine W.ite_f rfl ?_)
  cases a2 : decide ((g.size : Int) > 40) with
  | true =>
    repeat (first | refine W.ite_t a2 ?_ | refine W.ite_f a1 ?_ | refine W.ite_t n3 ?_ | refine W.ite_t n1 ?_ | refine W.ite_f k5 ?_ | refine W.ite_f k4 ?_ | refine W.ite_f k3 ?_ | refine W.ite_f k2 ?_ | refine W.ite_f k1 ?_ | refine W.ite_t rfl ?_ | refine W.ite_f rfl ?_)
    refine W.pure (ok21 1) rfl rfl ?_
    exact W.ret (RetQ.pure rfl (ch_ret 1 (by first | (simp only [checkB, k1, k2, k3, k4, k5, n1, n3, a1, a2]; rfl) | (simp only [checkB, k1, k2, k3, k4, k5, n1, n3, a1, a2]))))
  | false =>
  repeat (first | refine W.ite_f a2 ?_ | refine W.ite_f a1 ?_ | refine W.ite_t n3 ?_ | refine W.ite_t n1 ?_ | refine W.ite_f k5 ?_ | refine W.ite_f k4 ?_ | refine W.ite_f k3 ?_ | refine W.ite_f k2 ?_ | refine W.ite_f k1 ?_ | refine W.ite_t rfl ?_ | refine W.ite_f rfl ?_)
  cases b0 : any with
  | true =>
    repeat (first | refine W.ite_t b0 ?_ | refine W.ite_f a2 ?_ | refine W.ite_f a1 ?_ | refine W.ite_t n3 ?_ | refine W.ite_t n1 ?_ | refine W.ite_f k5 ?_ | refine W.ite_f k4 ?_ | refine W.ite_f k3 ?_ | refine W.ite_f k2 ?_ | refine W.ite_f k1 ?_ | refine W.ite_t rfl ?_ | refine W.ite_f rfl ?_)
    refine W.pure (ok21 11) rfl rfl ?_
    exact W.ret (RetQ.pure rfl (ch_ret 11 (by first | (simp only [checkB, k1, k2, k3, k4, k5, n1, n3, a1, a2, b0]; rfl) | (simp only [checkB, k1, k2, k3, k4, k5, n1, n3, a1, a2, b0]))))
  | false =>
  repeat (first | refine W.ite_f b0 ?_ | refine W.ite_f a2 ?_ | refine W.ite_f a1 ?_ | refine W.ite_t n3 ?_ | refine W.ite_t n1 ?_ | refine W.ite_f k5 ?_ | refine W.ite_f k4 ?_ | refine W.ite_f k3 ?_ | refine W.ite_f k2 ?_ | refine W.ite_f k1 ?_ | refine W.ite_t rfl ?_ | refine W.ite_f rfl ?_)
  cases b1 : decide ((f.length : Int) > 0) with
  | true =>
    repeat (first | refine W.ite_t b1 ?_ | refine W.ite_f b0 ?_ | refine W.ite_f a2 ?_ | refine W.ite_f a1 ?_ | refine W.ite_t n3 ?_ | refine W.ite_t n1 ?_ | refine W.ite_f k5 ?_ | refine W.ite_f k4 ?_ | refine W.ite_f k3 ?_ | refine W.ite_f k2 ?_ | refine W.ite_f k1 ?_ | refine W.ite_t rfl ?_ | refine W.ite_f rfl ?_)
    refine W.pure (ok21 11) rfl rfl ?_
    exact W.ret (RetQ.pure rfl (ch_ret 11 (by first | (simp only [checkB, k1, k2, k3, k4, k5, n1, n3, a1, a2, b0, b1]; rfl) | (simp only [checkB, k1, k2, k3, k4, k5, n1, n3, a1, a2, b0, b1]))))
  | false =>
  repeat (first | refine W.ite_f b1 ?_ | refine W.ite_f b0 ?_ | refine W.ite_f a2 ?_ | refine W.ite_f a1 ?_ | refine W.ite_t n3 ?_ | refine W.ite_t n1 ?_ | refine W.ite_f k5 ?_ | refine W.ite_f k4 ?_ | refine W.ite_f k3 ?_ | refine W.ite_f k2 ?_ | refine W.ite_f k1 ?_ | refine W.ite_t rfl ?_ | refine W.ite_f rfl ?_)
  cases b2 : (h != 0) with
  | true =>
    repeat (first | refine W.ite_t b2 ?_ | refine W.ite_f b1 ?_ | refine W.ite_f b0 ?_ | refine W.ite_f a2 ?_ | refine W.ite_f a1 ?_ | refine W.ite_t n3 ?_ | refine W.ite_t n1 ?_ | refine W.ite_f k5 ?_ | refine W.ite_f k4 ?_ | refine W.ite_f k3 ?_ | refine W.ite_f k2 ?_ | refine W.ite_f k1 ?_ | refine W.ite_t rfl ?_ | refine W.ite_f rfl ?_)
    refine W.pure (ok21 11) rfl rfl ?_
    exact W.ret (RetQ.pure rfl (ch_ret 11 (by first | (simp only [checkB, k1, k2, k3, k4, k5, n1, n3, a1, a2, b0, b1, b2]; rfl) | (simp only [checkB, k1, k2, k3, k4, k5, n1, n3, a1, a2, b0, b1, b2]))))
  | false =>
  repeat (first | refine W.ite_f b2 ?_ | refine W.ite_f b1 ?_ | refine W.ite_f b0 ?_ | refine W.ite_f a2 ?_ | refine W.ite_f a1 ?_ | refine W.ite_t n3 ?_ | refine W.ite_t n1 ?_ | refine W.ite_f k5 ?_ | refine W.ite_f k4 ?_ | refine W.ite_f k3 ?_ | refine W.ite_f k2 ?_ | refine W.ite_f k1 ?_ | refine W.ite_t rfl ?_ | refine W.ite_f rfl ?_)
  refine W.pure (ok21 11) rfl rfl ?_
  exact W.ret (RetQ.pure rfl (ch_ret 11 (by first | (simp only [checkB, k1, k2, k3, k4, k5, n1, n3, a1, a2, b0, b1, b2]; rfl) | (simp only [checkB, k1, k2, k3, k4, k5, n1, n3, a1, a2, b0, b1, b2]))))
theorem ok11 (m : Mg) : Go.Am.Pure Tryd.prog 11 [mgG m] (.d (errC (checkB m))) := by
  obtain ⟨k, g, any, f, p, q, h, v, t⟩ := m
  by_cases k1 : k = 1
  · subst k1; exact ok11k1 g any f p q h v t
  by_cases k2 : k = 2
  · subst k2; exact ok11k2 g any f p q h v t
  by_cases k3 : k = 3
  · subst k3; exact ok11k3 g any f p q h v t
  by_cases k4 : k = 4
  · subst k4; exact ok11k4 g any f p q h v t
  by_cases k5 : k = 5
  · subst k5; exact ok11k5 g any f p q h v t
  exact ok11kk g any f p q h v t k (by simpa using k1) (by simpa using k2) (by simpa using k3) (by simpa using k4) (by simpa using k5) (by simpa using k1) (by simpa using k3)
end Go.Proofs.YtkdibdlbigmkcaaDoor.Ms
