import Derived.Test.YtemabpapfkplgaaDoorA
import Derived.Test.YtemabpapfkplgaaDoorBG
set_option maxRecDepth 100000
set_option linter.unusedVariables false
set_option linter.unusedSimpArgs false
/- The statement BagPlays. -/
namespace Go.Proofs.YtemabpapfkplgaaDoor.Bg
open Go Go.Am
def od3 : Ords := [(36, [0, 1, 3, 4, 5, 6, 7, 8, 9, 2, 10]), (39, [1, 2, 0, 1003, 4, 5, 7, 8, 9, 6, 10, 11])]
theorem code3 : codeB Tryd.f3.ntmps od3 (match Tryd.f3.body with | some c => c | none => .skip) = true := by kernel_rfl
abbrev xB (b : B) : Blk := .var [.d (nI b.n), .d (.sl b.l.length (flat pkC b.l))]
theorem ne_self (a : Int) : (a != a) = false := by simp
set_option maxHeartbeats 16000000 in
theorem ok3 (l : List Act) : Go.Am.Pure Tryd.prog 3 [slF acC l] (bI true) := by
  refine CallOk.of tysOk mixed od3 Tryd.func3 rfl rfl code3 ?_
  refine W.pure ok4 rfl rfl ?_
  refine W.ite_f rfl ?_
  refine W.loop (fun k fr σ => ∃ (i : Nat) (b : B), fr = [(0, slF acC l), (3, .ptr 1 0), (4, .ptr 2 0), (5, .d (nI i))] ∧ σ = bS b ++ [xB b] ∧ i ≤ 60 ∧ Inv i b ∧ k = 60 - i) 60
    (Start.of [0, 3, 4, 5] [] (by simp)) ⟨0, ⟨0, [], 0, []⟩, rfl, rfl, by omega, ⟨by decide, by decide, by decide, by simp, by simp, by simp⟩, rfl⟩ ?_
  rintro k fr σ ⟨i, b, rfl, rfl, hi, hinv, rfl⟩
  have hlen := hinv.len
  have hn0 := hinv.n0
  have hn1 := hinv.n1
  have ko := As.okOfNil
  have ko1 : Go.Am.Pure Tryd.prog 7 [.d (fE 1)] (.d (nI 1)) := As.okOf bagW 0 1
  have ki : Go.Am.Pure Tryd.prog 11 [.d (fE 9), .d (Er.cdD 9)] (bI (9 == 9)) := Er.okIs bagW 0 9 9
  by_cases hgo : i < l.length ∧ i < 60
  · obtain ⟨hil, hi4⟩ := hgo
    have c1 : decide ((i : Int) < (l.length : Int)) = true := decide_eq_true (by omega)
    have c2 : decide ((i : Int) < 60) = true := decide_eq_true (by omega)
    repeat (first | refine W.ite_t rfl ?_ | refine W.ite_f rfl ?_ | refine W.ite_t c1 ?_ | refine W.ite_t c2 ?_)
    obtain ⟨a, ha⟩ : ∃ x, l[i]? = some x := ⟨_, List.getElem?_eq_getElem hil⟩
    refine W.need (ix_ok acC_len (by decide) hil) ?_
    refine W.ld (acE ha) ?_
    have g4 : IntKind.i64.wrap ((i : Int) + 1) = ((i + 1 : Nat) : Int) := by rw [wrap64 (by omega) (by omega)]; rfl
    have hic := ix_cases a.a b.l
    by_cases h100 : a.s.size > 2100
    · have c3 : decide ((a.s.size : Int) > 2100) = true := decide_eq_true (by omega)
      refine W.ite_t c3 ?_
      refine W.need ⟨by omega, by show (2100 : Int) ≤ (a.s.size : Int); omega⟩ ?_
      by_cases k1 : a.k = 1
      · have d1 : (a.k == 1) = true := by rw [beq_int]; exact decide_eq_true k1
        refine W.ite_t d1 ?_
        by_cases hbig : (a.s.extract 0 2100).size > 2000
        · refine W.callT [0, 1] (ok5B b a.a a.b (a.s.extract 0 2100) hbig) (by decide) rfl rfl rfl rfl ?_
          rintro v σ ⟨rfl, rfl⟩
          refine W.pure (ok6B b.n b.l a.a a.b (a.s.extract 0 2100) hbig) rfl rfl ?_
          repeat (first | refine W.ite_t rfl ?_ | refine W.ite_f rfl ?_)
          refine W.pure ko1 rfl rfl ?_
          repeat (first | refine W.ite_t rfl ?_ | refine W.ite_f rfl ?_)
          have hv : Inv (i + 1) b := hinv.more
          have hvl := hv.len
          have hsm := ok15 (b).l (by omega)
          refine W.callT [0, 1] (ok16 b (by omega)) (by decide) rfl rfl rfl rfl ?_
          rintro v σ ⟨rfl, rfl⟩
          refine W.pure hsm rfl rfl ?_
          repeat (first | refine W.ite_t rfl ?_ | refine W.ite_f rfl ?_)
          refine W.callT [0, 1] (ok17 b) (by decide) rfl rfl rfl rfl ?_
          rintro v σ ⟨rfl, rfl⟩
          repeat (first | refine W.ite_t rfl ?_ | refine W.ite_f rfl ?_ | refine W.ite_f (ne_self _) ?_)
          refine W.ret ⟨_, _, _, ?_, Trim.of [0, 3, 4, 5] [0, 1, 2] (by decide) (by show ∀ i ∈ [0, 1, 2], i < 5; simp) keep3, i + 1, b, ?_, rfl, by omega, hv, rfl⟩
          · omega
          · rw [← g4]; rfl
        · refine W.callT [0, 1] (ok5S b a.a a.b (a.s.extract 0 2100) (by omega) (by omega) ⟨hn0, by omega⟩) (by decide) rfl rfl rfl rfl ?_
          rintro v σ ⟨rfl, e', j', rfl⟩
          refine W.pure (ok6S b.n ⟨hn0, by omega⟩ b.l (by omega) a.a a.b (a.s.extract 0 2100) (by omega)) rfl rfl ?_
          repeat (first | refine W.ite_t rfl ?_ | refine W.ite_f rfl ?_ | refine W.ite_f (ne_self _) ?_)
          refine W.pure ko rfl rfl ?_
          repeat (first | refine W.ite_t rfl ?_ | refine W.ite_f rfl ?_ | refine W.ite_f (ne_self _) ?_)
          have hv : Inv (i + 1) (⟨b.n + 1, b.l ++ [(⟨b.n + 1, a.a, a.b, a.s.extract 0 2100⟩ : Pk)], e', j'⟩ : B) := hinv.snoc a.a a.b (a.s.extract 0 2100) (by omega) e' j'
          have hvl := hv.len
          have hsm := ok15 ((⟨b.n + 1, b.l ++ [(⟨b.n + 1, a.a, a.b, a.s.extract 0 2100⟩ : Pk)], e', j'⟩ : B)).l (by omega)
          refine W.callT [0, 1] (ok16 (⟨b.n + 1, b.l ++ [(⟨b.n + 1, a.a, a.b, a.s.extract 0 2100⟩ : Pk)], e', j'⟩ : B) (by omega)) (by decide) rfl rfl rfl rfl ?_
          rintro v σ ⟨rfl, rfl⟩
          refine W.pure hsm rfl rfl ?_
          repeat (first | refine W.ite_t rfl ?_ | refine W.ite_f rfl ?_)
          refine W.callT [0, 1] (ok17 (⟨b.n + 1, b.l ++ [(⟨b.n + 1, a.a, a.b, a.s.extract 0 2100⟩ : Pk)], e', j'⟩ : B)) (by decide) rfl rfl rfl rfl ?_
          rintro v σ ⟨rfl, rfl⟩
          repeat (first | refine W.ite_t rfl ?_ | refine W.ite_f rfl ?_ | refine W.ite_f (ne_self _) ?_)
          refine W.ret ⟨_, _, _, ?_, Trim.of [0, 3, 4, 5] [0, 1, 2] (by decide) (by show ∀ i ∈ [0, 1, 2], i < 5; simp) keep3, i + 1, (⟨b.n + 1, b.l ++ [(⟨b.n + 1, a.a, a.b, a.s.extract 0 2100⟩ : Pk)], e', j'⟩ : B), ?_, rfl, by omega, hv, rfl⟩
          · omega
          · rw [← g4]; rfl
      have d1 : (a.k == 1) = false := by rw [beq_int]; exact decide_eq_false k1
      by_cases k2 : a.k = 2
      · have d2 : (a.k == 2) = true := by rw [beq_int]; exact decide_eq_true k2
        refine W.ite_f d1 ?_
        refine W.ite_t d2 ?_
        have kf := ok9 b.n b.l (by omega) a.a
        have kw := ok10 b.n b.l (by omega) a.a
        rcases hic with ⟨hx, hno⟩ | ⟨kk, p, hx, hp, hpa, hbe⟩
        · rw [fnd_none hno] at kf
          rw [rest_all hno] at kw
          refine W.callT [0, 1] (ok8N b a.a (by omega) hx) (by decide) rfl rfl rfl rfl ?_
          rintro v σ ⟨rfl, rfl⟩
          refine W.pure kf rfl rfl ?_
          refine W.pure kw rfl rfl ?_
          repeat (first | refine W.ite_t rfl ?_ | refine W.ite_f rfl ?_ | refine W.pure ki rfl rfl ?_ | refine W.ite_f (by simp [ba_refl]) ?_)
          have hv : Inv (i + 1) b := hinv.more
          have hvl := hv.len
          have hsm := ok15 (b).l (by omega)
          refine W.callT [0, 1] (ok16 b (by omega)) (by decide) rfl rfl rfl rfl ?_
          rintro v σ ⟨rfl, rfl⟩
          refine W.pure hsm rfl rfl ?_
          repeat (first | refine W.ite_t rfl ?_ | refine W.ite_f rfl ?_)
          refine W.callT [0, 1] (ok17 b) (by decide) rfl rfl rfl rfl ?_
          rintro v σ ⟨rfl, rfl⟩
          repeat (first | refine W.ite_t rfl ?_ | refine W.ite_f rfl ?_ | refine W.ite_f (ne_self _) ?_)
          refine W.ret ⟨_, _, _, ?_, Trim.of [0, 3, 4, 5] [0, 1, 2] (by decide) (by show ∀ i ∈ [0, 1, 2], i < 6; simp) keep3, i + 1, b, ?_, rfl, by omega, hv, rfl⟩
          · omega
          · rw [← g4]; rfl
        · have hpe : p.id = a.a := by simpa using hpa
          rw [fnd_some hp hpa hbe] at kf
          have hro := rest_one hinv.srt hp
          rw [hpe] at hro
          rw [hro] at kw
          refine W.callT [0, 1] (ok8S b a.a (by omega) hx hp) (by decide) rfl rfl rfl rfl ?_
          rintro v σ ⟨rfl, rfl⟩
          refine W.pure kf rfl rfl ?_
          refine W.pure kw rfl rfl ?_
          repeat (first | refine W.ite_t rfl ?_ | refine W.ite_f rfl ?_ | refine W.pure ki rfl rfl ?_ | refine W.ite_f (by simp [ba_refl]) ?_)
          have hv : Inv (i + 1) (⟨b.n, b.l.eraseIdx kk, b.e, pkC pk0 ++ b.j⟩ : B) := hinv.sub (List.eraseIdx_sublist b.l kk) _ _
          have hvl := hv.len
          have hsm := ok15 ((⟨b.n, b.l.eraseIdx kk, b.e, pkC pk0 ++ b.j⟩ : B)).l (by omega)
          refine W.callT [0, 1] (ok16 (⟨b.n, b.l.eraseIdx kk, b.e, pkC pk0 ++ b.j⟩ : B) (by omega)) (by decide) rfl rfl rfl rfl ?_
          rintro v σ ⟨rfl, rfl⟩
          refine W.pure hsm rfl rfl ?_
          repeat (first | refine W.ite_t rfl ?_ | refine W.ite_f rfl ?_)
          refine W.callT [0, 1] (ok17 (⟨b.n, b.l.eraseIdx kk, b.e, pkC pk0 ++ b.j⟩ : B)) (by decide) rfl rfl rfl rfl ?_
          rintro v σ ⟨rfl, rfl⟩
          repeat (first | refine W.ite_t rfl ?_ | refine W.ite_f rfl ?_ | refine W.ite_f (ne_self _) ?_)
          refine W.ret ⟨_, _, _, ?_, Trim.of [0, 3, 4, 5] [0, 1, 2] (by decide) (by show ∀ i ∈ [0, 1, 2], i < 6; simp) keep3, i + 1, (⟨b.n, b.l.eraseIdx kk, b.e, pkC pk0 ++ b.j⟩ : B), ?_, rfl, by omega, hv, rfl⟩
          · omega
          · rw [← g4]; rfl
      have d2 : (a.k == 2) = false := by rw [beq_int]; exact decide_eq_false k2
      by_cases k3 : a.k = 3
      · have d3 : (a.k == 3) = true := by rw [beq_int]; exact decide_eq_true k3
        refine W.ite_f d1 ?_
        refine W.ite_f d2 ?_
        refine W.ite_t d3 ?_
        have kf := ok9 b.n b.l (by omega) a.a
        rcases hic with ⟨hx, hno⟩ | ⟨kk, p, hx, hp, hpa, hbe⟩
        · rw [fnd_none hno] at kf
          refine W.callT [0, 1] (ok12N b a.a (by omega) hx) (by decide) rfl rfl rfl rfl ?_
          rintro v σ ⟨rfl, rfl⟩
          refine W.pure kf rfl rfl ?_
          repeat (first | refine W.ite_t rfl ?_ | refine W.ite_f rfl ?_ | refine W.pure ki rfl rfl ?_)
          refine W.ret ⟨_, _, _, ?_, Trim.of [0, 3, 4, 5] [0, 1, 2] (by decide) (by show ∀ i ∈ [0, 1, 2], i < 5; simp) keep3, i + 1, b, ?_, rfl, by omega, hinv.more, rfl⟩
          · omega
          · rw [← g4]; rfl
        · rw [fnd_some hp hpa hbe] at kf
          have hpt := hinv.tx p (List.mem_of_getElem? hp)
          refine W.callT [0, 1] (ok12K b a.a hx hp hpt (by omega) ⟨hn0, by omega⟩) (by decide) rfl rfl rfl rfl ?_
          rintro v σ ⟨rfl, e', j', rfl⟩
          refine W.pure kf rfl rfl ?_
          repeat (first | refine W.ite_t rfl ?_ | refine W.ite_f rfl ?_)
          refine W.pure (ok6S b.n ⟨hn0, by omega⟩ b.l (by omega) p.fr p.to p.tx hpt) rfl rfl ?_
          repeat (first | refine W.ite_t rfl ?_ | refine W.ite_f rfl ?_ | refine W.ite_f (ne_self _) ?_)
          refine W.pure ko rfl rfl ?_
          repeat (first | refine W.ite_t rfl ?_ | refine W.ite_f rfl ?_ | refine W.ite_f (ne_self _) ?_)
          have hv : Inv (i + 1) (⟨b.n + 1, b.l ++ [(⟨b.n + 1, p.fr, p.to, p.tx⟩ : Pk)], e', j'⟩ : B) := hinv.snoc p.fr p.to p.tx hpt e' j'
          have hvl := hv.len
          have hsm := ok15 ((⟨b.n + 1, b.l ++ [(⟨b.n + 1, p.fr, p.to, p.tx⟩ : Pk)], e', j'⟩ : B)).l (by omega)
          refine W.callT [0, 1] (ok16 (⟨b.n + 1, b.l ++ [(⟨b.n + 1, p.fr, p.to, p.tx⟩ : Pk)], e', j'⟩ : B) (by omega)) (by decide) rfl rfl rfl rfl ?_
          rintro v σ ⟨rfl, rfl⟩
          refine W.pure hsm rfl rfl ?_
          repeat (first | refine W.ite_t rfl ?_ | refine W.ite_f rfl ?_)
          refine W.callT [0, 1] (ok17 (⟨b.n + 1, b.l ++ [(⟨b.n + 1, p.fr, p.to, p.tx⟩ : Pk)], e', j'⟩ : B)) (by decide) rfl rfl rfl rfl ?_
          rintro v σ ⟨rfl, rfl⟩
          repeat (first | refine W.ite_t rfl ?_ | refine W.ite_f rfl ?_ | refine W.ite_f (ne_self _) ?_)
          refine W.ret ⟨_, _, _, ?_, Trim.of [0, 3, 4, 5] [0, 1, 2] (by decide) (by show ∀ i ∈ [0, 1, 2], i < 6; simp) keep3, i + 1, (⟨b.n + 1, b.l ++ [(⟨b.n + 1, p.fr, p.to, p.tx⟩ : Pk)], e', j'⟩ : B), ?_, rfl, by omega, hv, rfl⟩
          · omega
          · rw [← g4]; rfl
      have d3 : (a.k == 3) = false := by rw [beq_int]; exact decide_eq_false k3
      by_cases k4 : a.k = 4
      · have d4 : (a.k == 4) = true := by rw [beq_int]; exact decide_eq_true k4
        refine W.ite_f d1 ?_
        refine W.ite_f d2 ?_
        refine W.ite_f d3 ?_
        refine W.ite_t d4 ?_
        have hrl := rest_le (fun p => p.to == a.a) b.l
        refine W.pure (ok13 b.n b.l (by omega) a.a) rfl rfl ?_
        refine W.callT [0, 1] (ok14 b a.a (by omega)) (by decide) rfl rfl rfl rfl ?_
        rintro v σ ⟨rfl, j', rfl⟩
        have hw : IntKind.i64.wrap ((b.l.length : Int) - ((rest (fun p => p.to == a.a) b.l).length : Int)) = (b.l.length : Int) - ((rest (fun p => p.to == a.a) b.l).length : Int) := wrap64 (by omega) (by omega)
        have hne : ((b.l.length : Int) - ((rest (fun p => p.to == a.a) b.l).length : Int) != IntKind.i64.wrap ((b.l.length : Int) - ((rest (fun p => p.to == a.a) b.l).length : Int))) = false := by rw [hw]; simp
        repeat (first | refine W.ite_t rfl ?_ | refine W.ite_f rfl ?_ | refine W.ite_f hne ?_)
        have hv : Inv (i + 1) (⟨b.n, rest (fun p => p.to == a.a) b.l, b.e, j'⟩ : B) := hinv.sub List.filter_sublist _ _
        have hvl := hv.len
        have hsm := ok15 ((⟨b.n, rest (fun p => p.to == a.a) b.l, b.e, j'⟩ : B)).l (by omega)
        refine W.callT [0, 1] (ok16 (⟨b.n, rest (fun p => p.to == a.a) b.l, b.e, j'⟩ : B) (by omega)) (by decide) rfl rfl rfl rfl ?_
        rintro v σ ⟨rfl, rfl⟩
        refine W.pure hsm rfl rfl ?_
        repeat (first | refine W.ite_t rfl ?_ | refine W.ite_f rfl ?_)
        refine W.callT [0, 1] (ok17 (⟨b.n, rest (fun p => p.to == a.a) b.l, b.e, j'⟩ : B)) (by decide) rfl rfl rfl rfl ?_
        rintro v σ ⟨rfl, rfl⟩
        repeat (first | refine W.ite_t rfl ?_ | refine W.ite_f rfl ?_ | refine W.ite_f (ne_self _) ?_)
        refine W.ret ⟨_, _, _, ?_, Trim.of [0, 3, 4, 5] [0, 1, 2] (by decide) (by show ∀ i ∈ [0, 1, 2], i < 5; simp) keep3, i + 1, (⟨b.n, rest (fun p => p.to == a.a) b.l, b.e, j'⟩ : B), ?_, rfl, by omega, hv, rfl⟩
        · omega
        · rw [← g4]; rfl
      · have d4 : (a.k == 4) = false := by rw [beq_int]; exact decide_eq_false k4
        refine W.ite_f d1 ?_
        refine W.ite_f d2 ?_
        refine W.ite_f d3 ?_
        refine W.ite_f d4 ?_
        have hv : Inv (i + 1) b := hinv.more
        have hvl := hv.len
        have hsm := ok15 (b).l (by omega)
        refine W.callT [0, 1] (ok16 b (by omega)) (by decide) rfl rfl rfl rfl ?_
        rintro v σ ⟨rfl, rfl⟩
        refine W.pure hsm rfl rfl ?_
        repeat (first | refine W.ite_t rfl ?_ | refine W.ite_f rfl ?_)
        refine W.callT [0, 1] (ok17 b) (by decide) rfl rfl rfl rfl ?_
        rintro v σ ⟨rfl, rfl⟩
        repeat (first | refine W.ite_t rfl ?_ | refine W.ite_f rfl ?_ | refine W.ite_f (ne_self _) ?_)
        refine W.ret ⟨_, _, _, ?_, Trim.of [0, 3, 4, 5] [0, 1, 2] (by decide) (by show ∀ i ∈ [0, 1, 2], i < 4; simp) keep3, i + 1, b, ?_, rfl, by omega, hv, rfl⟩
        · omega
        · rw [← g4]; rfl
    · have c3 : decide ((a.s.size : Int) > 2100) = false := decide_eq_false (by omega)
      refine W.ite_f c3 ?_
      by_cases k1 : a.k = 1
      · have d1 : (a.k == 1) = true := by rw [beq_int]; exact decide_eq_true k1
        refine W.ite_t d1 ?_
        by_cases hbig : (a.s).size > 2000
        · refine W.callT [0, 1] (ok5B b a.a a.b (a.s) hbig) (by decide) rfl rfl rfl rfl ?_
          rintro v σ ⟨rfl, rfl⟩
          refine W.pure (ok6B b.n b.l a.a a.b (a.s) hbig) rfl rfl ?_
          repeat (first | refine W.ite_t rfl ?_ | refine W.ite_f rfl ?_)
          refine W.pure ko1 rfl rfl ?_
          repeat (first | refine W.ite_t rfl ?_ | refine W.ite_f rfl ?_)
          have hv : Inv (i + 1) b := hinv.more
          have hvl := hv.len
          have hsm := ok15 (b).l (by omega)
          refine W.callT [0, 1] (ok16 b (by omega)) (by decide) rfl rfl rfl rfl ?_
          rintro v σ ⟨rfl, rfl⟩
          refine W.pure hsm rfl rfl ?_
          repeat (first | refine W.ite_t rfl ?_ | refine W.ite_f rfl ?_)
          refine W.callT [0, 1] (ok17 b) (by decide) rfl rfl rfl rfl ?_
          rintro v σ ⟨rfl, rfl⟩
          repeat (first | refine W.ite_t rfl ?_ | refine W.ite_f rfl ?_ | refine W.ite_f (ne_self _) ?_)
          refine W.ret ⟨_, _, _, ?_, Trim.of [0, 3, 4, 5] [0, 1, 2] (by decide) (by show ∀ i ∈ [0, 1, 2], i < 5; simp) keep3, i + 1, b, ?_, rfl, by omega, hv, rfl⟩
          · omega
          · rw [← g4]; rfl
        · refine W.callT [0, 1] (ok5S b a.a a.b (a.s) (by omega) (by omega) ⟨hn0, by omega⟩) (by decide) rfl rfl rfl rfl ?_
          rintro v σ ⟨rfl, e', j', rfl⟩
          refine W.pure (ok6S b.n ⟨hn0, by omega⟩ b.l (by omega) a.a a.b (a.s) (by omega)) rfl rfl ?_
          repeat (first | refine W.ite_t rfl ?_ | refine W.ite_f rfl ?_ | refine W.ite_f (ne_self _) ?_)
          refine W.pure ko rfl rfl ?_
          repeat (first | refine W.ite_t rfl ?_ | refine W.ite_f rfl ?_ | refine W.ite_f (ne_self _) ?_)
          have hv : Inv (i + 1) (⟨b.n + 1, b.l ++ [(⟨b.n + 1, a.a, a.b, a.s⟩ : Pk)], e', j'⟩ : B) := hinv.snoc a.a a.b (a.s) (by omega) e' j'
          have hvl := hv.len
          have hsm := ok15 ((⟨b.n + 1, b.l ++ [(⟨b.n + 1, a.a, a.b, a.s⟩ : Pk)], e', j'⟩ : B)).l (by omega)
          refine W.callT [0, 1] (ok16 (⟨b.n + 1, b.l ++ [(⟨b.n + 1, a.a, a.b, a.s⟩ : Pk)], e', j'⟩ : B) (by omega)) (by decide) rfl rfl rfl rfl ?_
          rintro v σ ⟨rfl, rfl⟩
          refine W.pure hsm rfl rfl ?_
          repeat (first | refine W.ite_t rfl ?_ | refine W.ite_f rfl ?_)
          refine W.callT [0, 1] (ok17 (⟨b.n + 1, b.l ++ [(⟨b.n + 1, a.a, a.b, a.s⟩ : Pk)], e', j'⟩ : B)) (by decide) rfl rfl rfl rfl ?_
          rintro v σ ⟨rfl, rfl⟩
          repeat (first | refine W.ite_t rfl ?_ | refine W.ite_f rfl ?_ | refine W.ite_f (ne_self _) ?_)
          refine W.ret ⟨_, _, _, ?_, Trim.of [0, 3, 4, 5] [0, 1, 2] (by decide) (by show ∀ i ∈ [0, 1, 2], i < 5; simp) keep3, i + 1, (⟨b.n + 1, b.l ++ [(⟨b.n + 1, a.a, a.b, a.s⟩ : Pk)], e', j'⟩ : B), ?_, rfl, by omega, hv, rfl⟩
          · omega
          · rw [← g4]; rfl
      have d1 : (a.k == 1) = false := by rw [beq_int]; exact decide_eq_false k1
      by_cases k2 : a.k = 2
      · have d2 : (a.k == 2) = true := by rw [beq_int]; exact decide_eq_true k2
        refine W.ite_f d1 ?_
        refine W.ite_t d2 ?_
        have kf := ok9 b.n b.l (by omega) a.a
        have kw := ok10 b.n b.l (by omega) a.a
        rcases hic with ⟨hx, hno⟩ | ⟨kk, p, hx, hp, hpa, hbe⟩
        · rw [fnd_none hno] at kf
          rw [rest_all hno] at kw
          refine W.callT [0, 1] (ok8N b a.a (by omega) hx) (by decide) rfl rfl rfl rfl ?_
          rintro v σ ⟨rfl, rfl⟩
          refine W.pure kf rfl rfl ?_
          refine W.pure kw rfl rfl ?_
          repeat (first | refine W.ite_t rfl ?_ | refine W.ite_f rfl ?_ | refine W.pure ki rfl rfl ?_ | refine W.ite_f (by simp [ba_refl]) ?_)
          have hv : Inv (i + 1) b := hinv.more
          have hvl := hv.len
          have hsm := ok15 (b).l (by omega)
          refine W.callT [0, 1] (ok16 b (by omega)) (by decide) rfl rfl rfl rfl ?_
          rintro v σ ⟨rfl, rfl⟩
          refine W.pure hsm rfl rfl ?_
          repeat (first | refine W.ite_t rfl ?_ | refine W.ite_f rfl ?_)
          refine W.callT [0, 1] (ok17 b) (by decide) rfl rfl rfl rfl ?_
          rintro v σ ⟨rfl, rfl⟩
          repeat (first | refine W.ite_t rfl ?_ | refine W.ite_f rfl ?_ | refine W.ite_f (ne_self _) ?_)
          refine W.ret ⟨_, _, _, ?_, Trim.of [0, 3, 4, 5] [0, 1, 2] (by decide) (by show ∀ i ∈ [0, 1, 2], i < 6; simp) keep3, i + 1, b, ?_, rfl, by omega, hv, rfl⟩
          · omega
          · rw [← g4]; rfl
        · have hpe : p.id = a.a := by simpa using hpa
          rw [fnd_some hp hpa hbe] at kf
          have hro := rest_one hinv.srt hp
          rw [hpe] at hro
          rw [hro] at kw
          refine W.callT [0, 1] (ok8S b a.a (by omega) hx hp) (by decide) rfl rfl rfl rfl ?_
          rintro v σ ⟨rfl, rfl⟩
          refine W.pure kf rfl rfl ?_
          refine W.pure kw rfl rfl ?_
          repeat (first | refine W.ite_t rfl ?_ | refine W.ite_f rfl ?_ | refine W.pure ki rfl rfl ?_ | refine W.ite_f (by simp [ba_refl]) ?_)
          have hv : Inv (i + 1) (⟨b.n, b.l.eraseIdx kk, b.e, pkC pk0 ++ b.j⟩ : B) := hinv.sub (List.eraseIdx_sublist b.l kk) _ _
          have hvl := hv.len
          have hsm := ok15 ((⟨b.n, b.l.eraseIdx kk, b.e, pkC pk0 ++ b.j⟩ : B)).l (by omega)
          refine W.callT [0, 1] (ok16 (⟨b.n, b.l.eraseIdx kk, b.e, pkC pk0 ++ b.j⟩ : B) (by omega)) (by decide) rfl rfl rfl rfl ?_
          rintro v σ ⟨rfl, rfl⟩
          refine W.pure hsm rfl rfl ?_
          repeat (first | refine W.ite_t rfl ?_ | refine W.ite_f rfl ?_)
          refine W.callT [0, 1] (ok17 (⟨b.n, b.l.eraseIdx kk, b.e, pkC pk0 ++ b.j⟩ : B)) (by decide) rfl rfl rfl rfl ?_
          rintro v σ ⟨rfl, rfl⟩
          repeat (first | refine W.ite_t rfl ?_ | refine W.ite_f rfl ?_ | refine W.ite_f (ne_self _) ?_)
          refine W.ret ⟨_, _, _, ?_, Trim.of [0, 3, 4, 5] [0, 1, 2] (by decide) (by show ∀ i ∈ [0, 1, 2], i < 6; simp) keep3, i + 1, (⟨b.n, b.l.eraseIdx kk, b.e, pkC pk0 ++ b.j⟩ : B), ?_, rfl, by omega, hv, rfl⟩
          · omega
          · rw [← g4]; rfl
      have d2 : (a.k == 2) = false := by rw [beq_int]; exact decide_eq_false k2
      by_cases k3 : a.k = 3
      · have d3 : (a.k == 3) = true := by rw [beq_int]; exact decide_eq_true k3
        refine W.ite_f d1 ?_
        refine W.ite_f d2 ?_
        refine W.ite_t d3 ?_
        have kf := ok9 b.n b.l (by omega) a.a
        rcases hic with ⟨hx, hno⟩ | ⟨kk, p, hx, hp, hpa, hbe⟩
        · rw [fnd_none hno] at kf
          refine W.callT [0, 1] (ok12N b a.a (by omega) hx) (by decide) rfl rfl rfl rfl ?_
          rintro v σ ⟨rfl, rfl⟩
          refine W.pure kf rfl rfl ?_
          repeat (first | refine W.ite_t rfl ?_ | refine W.ite_f rfl ?_ | refine W.pure ki rfl rfl ?_)
          refine W.ret ⟨_, _, _, ?_, Trim.of [0, 3, 4, 5] [0, 1, 2] (by decide) (by show ∀ i ∈ [0, 1, 2], i < 5; simp) keep3, i + 1, b, ?_, rfl, by omega, hinv.more, rfl⟩
          · omega
          · rw [← g4]; rfl
        · rw [fnd_some hp hpa hbe] at kf
          have hpt := hinv.tx p (List.mem_of_getElem? hp)
          refine W.callT [0, 1] (ok12K b a.a hx hp hpt (by omega) ⟨hn0, by omega⟩) (by decide) rfl rfl rfl rfl ?_
          rintro v σ ⟨rfl, e', j', rfl⟩
          refine W.pure kf rfl rfl ?_
          repeat (first | refine W.ite_t rfl ?_ | refine W.ite_f rfl ?_)
          refine W.pure (ok6S b.n ⟨hn0, by omega⟩ b.l (by omega) p.fr p.to p.tx hpt) rfl rfl ?_
          repeat (first | refine W.ite_t rfl ?_ | refine W.ite_f rfl ?_ | refine W.ite_f (ne_self _) ?_)
          refine W.pure ko rfl rfl ?_
          repeat (first | refine W.ite_t rfl ?_ | refine W.ite_f rfl ?_ | refine W.ite_f (ne_self _) ?_)
          have hv : Inv (i + 1) (⟨b.n + 1, b.l ++ [(⟨b.n + 1, p.fr, p.to, p.tx⟩ : Pk)], e', j'⟩ : B) := hinv.snoc p.fr p.to p.tx hpt e' j'
          have hvl := hv.len
          have hsm := ok15 ((⟨b.n + 1, b.l ++ [(⟨b.n + 1, p.fr, p.to, p.tx⟩ : Pk)], e', j'⟩ : B)).l (by omega)
          refine W.callT [0, 1] (ok16 (⟨b.n + 1, b.l ++ [(⟨b.n + 1, p.fr, p.to, p.tx⟩ : Pk)], e', j'⟩ : B) (by omega)) (by decide) rfl rfl rfl rfl ?_
          rintro v σ ⟨rfl, rfl⟩
          refine W.pure hsm rfl rfl ?_
          repeat (first | refine W.ite_t rfl ?_ | refine W.ite_f rfl ?_)
          refine W.callT [0, 1] (ok17 (⟨b.n + 1, b.l ++ [(⟨b.n + 1, p.fr, p.to, p.tx⟩ : Pk)], e', j'⟩ : B)) (by decide) rfl rfl rfl rfl ?_
          rintro v σ ⟨rfl, rfl⟩
          repeat (first | refine W.ite_t rfl ?_ | refine W.ite_f rfl ?_ | refine W.ite_f (ne_self _) ?_)
          refine W.ret ⟨_, _, _, ?_, Trim.of [0, 3, 4, 5] [0, 1, 2] (by decide) (by show ∀ i ∈ [0, 1, 2], i < 6; simp) keep3, i + 1, (⟨b.n + 1, b.l ++ [(⟨b.n + 1, p.fr, p.to, p.tx⟩ : Pk)], e', j'⟩ : B), ?_, rfl, by omega, hv, rfl⟩
          · omega
          · rw [← g4]; rfl
      have d3 : (a.k == 3) = false := by rw [beq_int]; exact decide_eq_false k3
      by_cases k4 : a.k = 4
      · have d4 : (a.k == 4) = true := by rw [beq_int]; exact decide_eq_true k4
        refine W.ite_f d1 ?_
        refine W.ite_f d2 ?_
        refine W.ite_f d3 ?_
        refine W.ite_t d4 ?_
        have hrl := rest_le (fun p => p.to == a.a) b.l
        refine W.pure (ok13 b.n b.l (by omega) a.a) rfl rfl ?_
        refine W.callT [0, 1] (ok14 b a.a (by omega)) (by decide) rfl rfl rfl rfl ?_
        rintro v σ ⟨rfl, j', rfl⟩
        have hw : IntKind.i64.wrap ((b.l.length : Int) - ((rest (fun p => p.to == a.a) b.l).length : Int)) = (b.l.length : Int) - ((rest (fun p => p.to == a.a) b.l).length : Int) := wrap64 (by omega) (by omega)
        have hne : ((b.l.length : Int) - ((rest (fun p => p.to == a.a) b.l).length : Int) != IntKind.i64.wrap ((b.l.length : Int) - ((rest (fun p => p.to == a.a) b.l).length : Int))) = false := by rw [hw]; simp
        repeat (first | refine W.ite_t rfl ?_ | refine W.ite_f rfl ?_ | refine W.ite_f hne ?_)
        have hv : Inv (i + 1) (⟨b.n, rest (fun p => p.to == a.a) b.l, b.e, j'⟩ : B) := hinv.sub List.filter_sublist _ _
        have hvl := hv.len
        have hsm := ok15 ((⟨b.n, rest (fun p => p.to == a.a) b.l, b.e, j'⟩ : B)).l (by omega)
        refine W.callT [0, 1] (ok16 (⟨b.n, rest (fun p => p.to == a.a) b.l, b.e, j'⟩ : B) (by omega)) (by decide) rfl rfl rfl rfl ?_
        rintro v σ ⟨rfl, rfl⟩
        refine W.pure hsm rfl rfl ?_
        repeat (first | refine W.ite_t rfl ?_ | refine W.ite_f rfl ?_)
        refine W.callT [0, 1] (ok17 (⟨b.n, rest (fun p => p.to == a.a) b.l, b.e, j'⟩ : B)) (by decide) rfl rfl rfl rfl ?_
        rintro v σ ⟨rfl, rfl⟩
        repeat (first | refine W.ite_t rfl ?_ | refine W.ite_f rfl ?_ | refine W.ite_f (ne_self _) ?_)
        refine W.ret ⟨_, _, _, ?_, Trim.of [0, 3, 4, 5] [0, 1, 2] (by decide) (by show ∀ i ∈ [0, 1, 2], i < 5; simp) keep3, i + 1, (⟨b.n, rest (fun p => p.to == a.a) b.l, b.e, j'⟩ : B), ?_, rfl, by omega, hv, rfl⟩
        · omega
        · rw [← g4]; rfl
      · have d4 : (a.k == 4) = false := by rw [beq_int]; exact decide_eq_false k4
        refine W.ite_f d1 ?_
        refine W.ite_f d2 ?_
        refine W.ite_f d3 ?_
        refine W.ite_f d4 ?_
        have hv : Inv (i + 1) b := hinv.more
        have hvl := hv.len
        have hsm := ok15 (b).l (by omega)
        refine W.callT [0, 1] (ok16 b (by omega)) (by decide) rfl rfl rfl rfl ?_
        rintro v σ ⟨rfl, rfl⟩
        refine W.pure hsm rfl rfl ?_
        repeat (first | refine W.ite_t rfl ?_ | refine W.ite_f rfl ?_)
        refine W.callT [0, 1] (ok17 b) (by decide) rfl rfl rfl rfl ?_
        rintro v σ ⟨rfl, rfl⟩
        repeat (first | refine W.ite_t rfl ?_ | refine W.ite_f rfl ?_ | refine W.ite_f (ne_self _) ?_)
        refine W.ret ⟨_, _, _, ?_, Trim.of [0, 3, 4, 5] [0, 1, 2] (by decide) (by show ∀ i ∈ [0, 1, 2], i < 4; simp) keep3, i + 1, b, ?_, rfl, by omega, hv, rfl⟩
        · omega
        · rw [← g4]; rfl
  · have split2 : (decide ((i : Int) < (l.length : Int)) = false) ∨ (decide ((i : Int) < (l.length : Int)) = true ∧ decide ((i : Int) < 60) = false) := by
      by_cases h : i < l.length
      · exact .inr ⟨decide_eq_true (by omega), decide_eq_false (by omega)⟩
      · exact .inl (decide_eq_false (by omega))
    rcases split2 with c1 | ⟨c1, c2⟩
    · repeat (first | refine W.ite_t rfl ?_ | refine W.ite_f rfl ?_ | refine W.ite_f c1 ?_)
      exact W.ret (W.ret (RetQ.pure rfl rfl))
    · repeat (first | refine W.ite_t rfl ?_ | refine W.ite_f rfl ?_ | refine W.ite_t c1 ?_ | refine W.ite_f c2 ?_)
      exact W.ret (W.ret (RetQ.pure rfl rfl))
end Go.Proofs.YtemabpapfkplgaaDoor.Bg
