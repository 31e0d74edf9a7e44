import Derived.Test.YtcanicacdfkaeaaDoorVO
import Derived.Test.YtcanicacdfkaeaaDoorA3
set_option maxRecDepth 100000
set_option linter.unusedVariables false
set_option linter.unusedSimpArgs false
/- ValueForms. -/
namespace Go.Proofs.YtcanicacdfkaeaaDoor.Va
open Go Go.Am
def od8 : Ords := []
theorem code8 : codeB Tryd.f8.ntmps od8 (match Tryd.f8.body with | some c => c | none => .skip) = true := by kernel_rfl
def od22 : Ords := []
theorem code22 : codeB Tryd.f22.ntmps od22 (match Tryd.f22.body with | some c => c | none => .skip) = true := by kernel_rfl
theorem okAtF (wh : ByteArray) (i : Int) : Go.Am.Pure Tryd.prog 9 [.d (Er.ftD wh i 3)] (.d (nI i)) := by
  refine Pure.of_calls Tryd.func9 rfl rfl fun g w vs hw hv => ?_
  obtain ⟨v1, r, rfl, h1, hr⟩ := hv
  rw [VRL] at hr
  subst hr
  obtain ⟨p, rfl, b, base, rfl, hm⟩ := h1
  obtain ⟨u, hu, hd⟩ := hm.get 2 (by simp)
  obtain ⟨z, rfl, hz⟩ := hd
  obtain rfl := DR.lit hz
  obtain ⟨u1, hu1, hd1⟩ := hm.get 1 (by simp)
  obtain rfl := DR.lit hd1
  exact Af.at_fault b base i w (hw.fact _ _ hu) (hw.fact _ _ hu1) (hw.fact _ _ (hw.glob _ _ ⟨rfl, rfl⟩))
theorem okAtNil : Go.Am.Pure Tryd.prog 9 [.d (.lit .nilIface)] (.d (nI (-1))) := by
  refine Pure.of_calls Tryd.func9 rfl rfl fun g w vs hw hv => ?_
  obtain ⟨v1, r, rfl, h1, hr⟩ := hv
  rw [VRL] at hr
  subst hr
  obtain rfl := VR.lit h1
  exact Af.at_nil w
theorem okAt (o : Option Nat) : Go.Am.Pure Tryd.prog 9 [.d (errV o)] (.d (nI (atN o))) := by
  cases o with
  | none => exact okAtNil
  | some i => exact okAtF _ _
def priceT : ByteArray := txt [112, 114, 105, 99, 101]
def tagT : ByteArray := txt [116, 97, 103]
def sample : List Att := [⟨priceT, 1, 0, 99⟩, ⟨tagT, 2, 0, 0⟩]
theorem ok22 : Go.Am.Pure Tryd.prog 22 [] (slF atC sample) := by
  refine CallOk.of tysOk mixed od22 Tryd.func22 rfl rfl code22 ?_
  refine W.alt_l ?_
  refine W.ret ?_
  exact RetQ.pure rfl rfl
def awF : List Prd := [⟨priceT, 1, 3, 9, txt []⟩, ⟨tagT, 3, 0, 0, txt [97]⟩]
theorem chk_sample : chkErr sample = none := by decide +kernel
theorem aw1 : matchV sample awF ⟨[⟨5, txt []⟩, ⟨0, txt [97, 98, 99]⟩], txt []⟩ = true := by decide +kernel
theorem aw2 : matchV sample awF ⟨[⟨5, txt []⟩, ⟨0, txt [98]⟩], txt []⟩ = false := by decide +kernel
theorem ok8 : Go.Am.Pure Tryd.prog 8 [] (bI true) := by
  refine CallOk.of tysOk mixed od8 Tryd.func8 rfl rfl code8 ?_
  refine W.pure ok22 rfl rfl ?_
  refine W.alt_l ?_
  have k1 := ok10 sample
  rw [chk_sample] at k1
  refine W.pure k1 rfl rfl ?_
  repeat (first | refine W.ite_t rfl ?_ | refine W.ite_f rfl ?_)
  refine W.alt_l ?_
  repeat (first | refine W.ite_t rfl ?_ | refine W.ite_f rfl ?_)
  have k2 := ok23 sample (by decide) awF ⟨[⟨5, txt []⟩, ⟨0, txt [97, 98, 99]⟩], txt []⟩
  rw [aw1] at k2
  refine W.pure k2 rfl rfl ?_
  repeat (first | refine W.ite_t rfl ?_ | refine W.ite_f rfl ?_)
  refine W.alt_l ?_
  repeat (first | refine W.ite_t rfl ?_ | refine W.ite_f rfl ?_)
  have k3 := ok23 sample (by decide) awF ⟨[⟨5, txt []⟩, ⟨0, txt [98]⟩], txt []⟩
  rw [aw2] at k3
  refine W.pure k3 rfl rfl ?_
  repeat (first | refine W.ite_t rfl ?_ | refine W.ite_f rfl ?_)
  refine W.ret ?_
  exact RetQ.pure rfl rfl
theorem cutN_size (s : ByteArray) (n : Nat) : (cutN s n).size ≤ n := by
  unfold cutN
  split
  · simp; omega
  · omega
theorem beq_b (b : Bool) : (b == b) = true := by cases b <;> rfl
set_option maxHeartbeats 16000000 in
theorem ok3 (s0 : List Att) (e0 : Evt) (f0 : List Prd) (t0 : ByteArray) : Go.Am.Pure Tryd.prog 3 [slF atC s0, .d (.agg (evC e0)), slF prC f0, .d (sD t0)] (bI true) := by
  have k1 := ok4 s0
  have k2 := ok5 e0
  have k3 := ok6 f0
  have k4 := ok7 t0 50
  have hs : (att6 s0).length ≤ 6 := by simp [att6]; omega
  have hn : ∀ a ∈ att6 s0, a.nm.size ≤ 1000000 := fun a ha => by
    simp only [att6, List.mem_map] at ha
    obtain ⟨y, _, rfl⟩ := ha
    have := cutN_size y.nm 20
    show (cutN y.nm 20).size ≤ _
    omega
  have hv : ∀ v ∈ (evt6 e0).vals, v.str.size ≤ 1000000 := fun v hv => by
    simp only [evt6, List.mem_map] at hv
    obtain ⟨y, _, rfl⟩ := hv
    have := cutN_size y.str 50
    show (cutN y.str 50).size ≤ _
    omega
  have hf : ∀ p ∈ prd6 f0, p.str.size ≤ 1000000 := fun p hp => by
    simp only [prd6, List.mem_map] at hp
    obtain ⟨y, _, rfl⟩ := hp
    have := cutN_size y.str 50
    show (cutN y.str 50).size ≤ _
    omega
  have ht := cutN_size t0 50
  generalize att6 s0 = s at *
  generalize evt6 e0 = e at *
  generalize prd6 f0 = f at *
  generalize cutN t0 50 = t at *
  have a1 := ok10 s
  have a2 := okAt (chkErr s)
  have a3 := ok11 s hn
  have b1 := ok12 s (by omega) e
  have b2 := okAt (evtErr s e)
  have b3 := ok13 s (by omega) e hv
  have c1 := ok14 s (by omega) f
  have c2 := okAt (fltErr s f)
  have c3 := ok15 s (by omega) f hf
  have d1 := ok16 s (by omega) t
  have d2 := ok17 s (by omega) t
  have f1 := ok18 t
  have f2 := ok19 t (by omega)
  have g1 := ok20 t
  have g2 := ok21 t (by omega)
  generalize chkErr s = r1 at *
  generalize evtErr s e = r2 at *
  generalize fltErr s f = r3 at *
  generalize findA s t = r4 at *
  generalize nameOk t = r5 at *
  generalize strOk t = r6 at *
  obtain ⟨ev, ep⟩ := e
  refine CallOk.of tysOk mixed od3 Tryd.func3 rfl rfl code3 ?_
  have e4 : (r4 == r4) = true := by simp
  have e5 : (r5 == r5) = true := beq_b r5
  have e6 : (r6 == r6) = true := beq_b r6
  refine W.pure k1 rfl rfl ?_
  refine W.pure k2 rfl rfl ?_
  refine W.pure k3 rfl rfl ?_
  refine W.pure k4 rfl rfl ?_
  refine W.pure ok8 rfl rfl ?_
  have q1 : (atN r1 == atN r1) = true := by simp
  have q2 : (atN r2 == atN r2) = true := by simp
  have q3 : (atN r3 == atN r3) = true := by simp
  cases r1 <;> cases r2 <;> cases r3
  all_goals
    repeat (first | refine W.ite_t rfl ?_ | refine W.ite_f rfl ?_)
    refine W.pure a1 rfl rfl ?_
    repeat (first | refine W.ite_t rfl ?_ | refine W.ite_f rfl ?_)
    refine W.pure a2 rfl rfl ?_
    repeat (first | refine W.ite_t rfl ?_ | refine W.ite_f rfl ?_)
    refine W.pure a3 rfl rfl ?_
    repeat (first | refine W.ite_t rfl ?_ | refine W.ite_f rfl ?_ | refine W.ite_t q1 ?_)
    refine W.pure b1 rfl rfl ?_
    repeat (first | refine W.ite_t rfl ?_ | refine W.ite_f rfl ?_ | refine W.ite_t q1 ?_)
    refine W.pure b2 rfl rfl ?_
    repeat (first | refine W.ite_t rfl ?_ | refine W.ite_f rfl ?_ | refine W.ite_t q1 ?_)
    refine W.pure b3 rfl rfl ?_
    repeat (first | refine W.ite_t rfl ?_ | refine W.ite_f rfl ?_ | refine W.ite_t q1 ?_ | refine W.ite_t q2 ?_)
    refine W.pure c1 rfl rfl ?_
    repeat (first | refine W.ite_t rfl ?_ | refine W.ite_f rfl ?_ | refine W.ite_t q1 ?_ | refine W.ite_t q2 ?_)
    refine W.pure c2 rfl rfl ?_
    repeat (first | refine W.ite_t rfl ?_ | refine W.ite_f rfl ?_ | refine W.ite_t q1 ?_ | refine W.ite_t q2 ?_)
    refine W.pure c3 rfl rfl ?_
    repeat (first | refine W.ite_t rfl ?_ | refine W.ite_f rfl ?_ | refine W.ite_t q1 ?_ | refine W.ite_t q2 ?_ | refine W.ite_t q3 ?_)
    refine W.pure d1 rfl rfl ?_
    repeat (first | refine W.ite_t rfl ?_ | refine W.ite_f rfl ?_ | refine W.ite_t q1 ?_ | refine W.ite_t q2 ?_ | refine W.ite_t q3 ?_)
    refine W.pure d2 rfl rfl ?_
    repeat (first | refine W.ite_t rfl ?_ | refine W.ite_f rfl ?_ | refine W.ite_t q1 ?_ | refine W.ite_t q2 ?_ | refine W.ite_t q3 ?_ | refine W.ite_t e4 ?_)
    refine W.pure f1 rfl rfl ?_
    repeat (first | refine W.ite_t rfl ?_ | refine W.ite_f rfl ?_ | refine W.ite_t e4 ?_)
    refine W.pure f2 rfl rfl ?_
    repeat (first | refine W.ite_t rfl ?_ | refine W.ite_f rfl ?_ | refine W.ite_t e4 ?_ | refine W.ite_t e5 ?_)
    refine W.pure g1 rfl rfl ?_
    repeat (first | refine W.ite_t rfl ?_ | refine W.ite_f rfl ?_ | refine W.ite_t e4 ?_ | refine W.ite_t e5 ?_)
    refine W.pure g2 rfl rfl ?_
    repeat (first | refine W.ite_t rfl ?_ | refine W.ite_f rfl ?_ | refine W.ite_t e4 ?_ | refine W.ite_t e5 ?_ | refine W.ite_t e6 ?_)
    refine W.ret ?_
    refine RetQ.pure rfl (ret_bI ?_)
    first | rfl | exact e6 | exact e6.symm
end Go.Proofs.YtcanicacdfkaeaaDoor.Va
