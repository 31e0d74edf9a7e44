import Derived.Test.YtcanicacdfkaeaaV7
set_option maxRecDepth 100000
set_option linter.unusedVariables false
set_option linter.unusedSimpArgs false
namespace Go.Proofs.Ytcanicacdfkaeaa.Va
open Go Go.Am
def od11 : Ords := []
theorem code11 : codeB Try.f11.ntmps [] (match Try.f11.body with | some c => c | none => .skip) = true := by kernel_rfl
theorem code16 : codeB Try.f16.ntmps [] (match Try.f16.body with | some c => c | none => .skip) = true := by kernel_rfl
theorem code17 : codeB Try.f17.ntmps [] (match Try.f17.body with | some c => c | none => .skip) = true := by kernel_rfl
def priceT : ByteArray := txt [112, 114, 105, 99, 101]
def tagT : ByteArray := txt [116, 97, 103]
def sample : List Att := [⟨priceT, 1, 0, 99⟩, ⟨tagT, 2, 0, 0⟩]
theorem ok16 : Go.Am.Pure Try.prog 16 [] (slF atC sample) := by
  refine CallOk.of tysOk mixed [] Try.func16 rfl rfl code16 ?_
  refine W.alt_l ?_
  refine W.ret ?_
  exact RetQ.pure rfl rfl
theorem ok17 (s : List Att) (hs : s.length ≤ 4611686018427387904) (e : Evt) (lo hi : Int) : Go.Am.Pure Try.prog 17 [slF atC s, .d (.agg (evC e)), .d (nI lo), .d (nI hi)] (bI (matchV s [⟨priceT, 1, lo, hi, txt []⟩] e)) := by
  refine CallOk.of tysOk mixed [] Try.func17 rfl rfl code17 ?_
  refine W.alt_l ?_
  refine W.pure (ok12 s hs [⟨priceT, 1, lo, hi, txt []⟩] e) rfl rfl ?_
  refine W.ret ?_
  exact RetQ.pure rfl rfl
def awF : List Prd := [⟨priceT, 1, 3, 9, txt []⟩, ⟨tagT, 3, 0, 0, txt [97]⟩]
theorem chk_sample : chkErr sample = none := by decide +kernel
theorem aw1 : matchV sample awF ⟨[⟨5, txt []⟩, ⟨0, txt [97, 98, 99]⟩], txt []⟩ = true := by decide +kernel
theorem aw2 : matchV sample awF ⟨[⟨5, txt []⟩, ⟨0, txt [98]⟩], txt []⟩ = false := by decide +kernel
theorem ok11 : Go.Am.Pure Try.prog 11 [] (bI true) := by
  refine CallOk.of tysOk mixed [] Try.func11 rfl rfl code11 ?_
  refine W.pure ok16 rfl rfl ?_
  refine W.alt_l ?_
  have k1 := ok18 sample
  rw [chk_sample] at k1
  refine W.pure k1 rfl rfl ?_
  repeat (first | refine W.ite_t rfl ?_ | refine W.ite_f rfl ?_)
  refine W.alt_l ?_
  repeat (first | refine W.ite_t rfl ?_ | refine W.ite_f rfl ?_)
  have k2 := ok12 sample (by decide) awF ⟨[⟨5, txt []⟩, ⟨0, txt [97, 98, 99]⟩], txt []⟩
  rw [aw1] at k2
  refine W.pure k2 rfl rfl ?_
  repeat (first | refine W.ite_t rfl ?_ | refine W.ite_f rfl ?_)
  refine W.alt_l ?_
  repeat (first | refine W.ite_t rfl ?_ | refine W.ite_f rfl ?_)
  have k3 := ok12 sample (by decide) awF ⟨[⟨5, txt []⟩, ⟨0, txt [98]⟩], txt []⟩
  rw [aw2] at k3
  refine W.pure k3 rfl rfl ?_
  repeat (first | refine W.ite_t rfl ?_ | refine W.ite_f rfl ?_)
  refine W.ret ?_
  exact RetQ.pure rfl rfl
end Go.Proofs.Ytcanicacdfkaeaa.Va
