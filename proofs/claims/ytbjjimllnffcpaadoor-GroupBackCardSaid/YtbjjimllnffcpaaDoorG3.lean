import Derived.Test.YtbjjimllnffcpaaDoorG2
set_option maxRecDepth 100000
set_option linter.unusedVariables false
set_option linter.unusedSimpArgs false
/- Package group: the groups of a filter. -/
namespace Go.Proofs.YtbjjimllnffcpaaDoor.Gr
open Go Go.Am Va
def od19 : Ords := [(4, [0, 1, 2, 3, 4, 5, 6, 10, 11, 12, 13, 14, 7, 8, 9, 1015, 16, 17, 18, 19, 20]), (9, [0, 1, 2, 3, 4, 5, 6, 1007, 1008, 1009, 10])]
theorem code19 : codeB Tryd.f19.ntmps od19 (match Tryd.f19.body with | some c => c | none => .skip) = true := by kernel_rfl
/-- What holds of the best so far. -/
def BestInv (s : List Att) (f : List Prd) (n : Int) (i : Nat) (b : Int × Int) : Prop :=
  (i = 0 ∧ b.1 = -1) ∨ ∃ (j : Nat) (q : Prd), b.1 = j ∧ j < i ∧ f[j]? = some q ∧ b.2 = wid s q n ∧ ∀ (k : Nat) (q' : Prd), k < i → f[k]? = some q' → wid s q n ≤ wid s q' n ∧ (k < j → wid s q n < wid s q' n)
theorem bestInv_step {s : List Att} {f : List Prd} {n : Int} {i : Nat} {b : Int × Int} {q : Prd} (hq : f[i]? = some q) (h : BestInv s f n i b) : BestInv s f n (i + 1) (stepG s n i q b) := by
  right
  unfold stepG
  rcases h with ⟨rfl, h⟩ | ⟨j, p, h1, h2, h3, h4, h5⟩
  · rw [if_pos (.inl (by omega))]
    refine ⟨0, q, rfl, by omega, hq, rfl, fun k q' hk hq' => ?_⟩
    obtain rfl : k = 0 := by omega
    rw [hq] at hq'
    obtain rfl := Option.some.inj hq'
    exact ⟨Int.le_refl _, fun h => absurd h (by omega)⟩
  · by_cases hlt : wid s q n < b.2
    · rw [if_pos (.inr hlt)]
      refine ⟨i, q, rfl, by omega, hq, rfl, fun k q' hk hq' => ?_⟩
      rcases Nat.lt_or_ge k i with hki | hki
      · have := (h5 k q' hki hq').1
        omega
      · obtain rfl : k = i := by omega
        rw [hq] at hq'
        obtain rfl := Option.some.inj hq'
        exact ⟨Int.le_refl _, fun h => absurd h (by omega)⟩
    · rw [if_neg (by omega)]
      refine ⟨j, p, h1, by omega, h3, h4, fun k q' hk hq' => ?_⟩
      rcases Nat.lt_or_ge k i with hki | hki
      · exact h5 k q' hki hq'
      · obtain rfl : k = i := by omega
        rw [hq] at hq'
        obtain rfl := Option.some.inj hq'
        exact ⟨by omega, fun h => absurd h (by omega)⟩
theorem bestInv_end {s : List Att} {f : List Prd} {n : Int} : ∀ (m i : Nat) (b : Int × Int), i + m = f.length → BestInv s f n i b → BestInv s f n f.length (bestG s n (f.drop i) i b)
  | 0, i, b, hm, h => by
    rw [List.drop_of_length_le (by omega), bestG]
    have : i = f.length := by omega
    rw [← this]
    exact h
  | m + 1, i, b, hm, h => by
    obtain ⟨q, hq⟩ : ∃ x, f[i]? = some x := ⟨_, List.getElem?_eq_getElem (by omega)⟩
    rw [drop_cons hq, bestG]
    exact bestInv_end m (i + 1) _ (by omega) (bestInv_step hq h)
/-- The predicate that is chosen. -/
theorem Fine.best {s : List Att} {f : List Prd} {n : Int} (h : Fine s f n) : ∃ (j : Nat) (q : Prd), bestI s f n = j ∧ j < f.length ∧ f[j]? = some q ∧ ∀ (k : Nat) (q' : Prd), f[k]? = some q' → wid s q n ≤ wid s q' n ∧ (k < j → wid s q n < wid s q' n) := by
  have h1 := (fltErr_none h.flt).1
  rcases bestInv_end (s := s) (f := f) (n := n) f.length 0 (-1, 0) (by omega) (.inl ⟨rfl, rfl⟩) with ⟨h2, _⟩ | ⟨j, q, h2, h3, h4, h5, h6⟩
  · omega
  · exact ⟨j, q, h2, h3, h4, fun k q' hq' => h6 k q' (List.getElem?_eq_some_iff.1 hq').1 hq'⟩
theorem prF0 {l : List Prd} {i : Nat} {a : Prd} (h : l[i]? = some a) : Elem (flat prC l) [.str] (i * 5 + 0) 1 [sD a.nm] := Elem.of prC_len h [.str] 0 rfl (by decide) ⟨rfl, True.intro⟩ rfl
def ivC (p : Int × Int) : List D := [nI p.1, nI p.2]
theorem ivC_len (p : Int × Int) : (ivC p).length = 2 := rfl
theorem ivs_flat : ∀ l : List (Int × Int), Dy.ivs l = flat ivC l
  | [] => rfl
  | p :: r => by simp only [Dy.ivs, flat, ivs_flat r]; rfl
theorem slI_flat (l : List (Int × Int)) : Dy.slI l = slF ivC l := by unfold Dy.slI slF; rw [ivs_flat]
theorem ivE {l : List (Int × Int)} {i : Nat} {p : Int × Int} (h : l[i]? = some p) : Elem (flat ivC l) [.int .i64, .int .i64] (i * 2) 2 (ivC p) := Elem.all ivC_len h _ rfl ⟨rfl, rfl, True.intro⟩ rfl
/-- Intervals that can be named. -/
def Small (C : List (Int × Int)) : Prop := ∀ p ∈ C, 0 ≤ p.1 ∧ p.1 < 1000 ∧ 0 ≤ p.2 ∧ p.2 < 1000
theorem good_small {l i n : Int} (h : Dy.good l i n = true) : 0 ≤ l ∧ l < 1000 ∧ 0 ≤ i ∧ i < 1000 := by
  obtain ⟨h1, h2, h3, h4, h5, h6⟩ := Dy.good_iff.1 h
  have := pow2_le (k := l.toNat) (by omega)
  omega
theorem tiles_good {n : Int} : ∀ {l : List (Int × Int)} {x y : Int}, Dy.Tiles n x l y → ∀ p ∈ l, Dy.good p.1 p.2 n = true
  | [], _, _, _, p, hp => by cases hp
  | q :: r, x, y, h, p, hp => by
    rcases List.mem_cons.1 hp with rfl | hp
    · exact h.1
    · exact tiles_good h.2.2 p hp
theorem cover_small (lo hi n : Int) : Small (Dy.cover lo hi n) := fun p hp => by
  have hne : Dy.cover lo hi n ≠ [] := fun e => by rw [e] at hp; cases hp
  exact good_small (tiles_good (Dy.tiles_of_cover hne) p hp)
def names (a : ByteArray) (C : List (Int × Int)) : List ByteArray := C.map fun p => nameS a p.1.toNat p.2.toNat
theorem names_take {a : ByteArray} {C : List (Int × Int)} {i : Nat} {p : Int × Int} (h : C[i]? = some p) : names a (C.take (i + 1)) = names a (C.take i) ++ [nameS a p.1.toNat p.2.toNat] := by
  unfold names
  rw [List.take_add_one, List.map_append, h]
  rfl
def noPrd : Prd := ⟨txt [], 0, 0, 0, txt []⟩
def pickQ (s : List Att) (f : List Prd) (n : Int) : Prd := (f[(bestI s f n).toNat]?).getD noPrd
def ofL (s : List Att) (f : List Prd) (n : Int) : List ByteArray := match chooseE s f n with
  | .ok => names (pickQ s f n).nm (Dy.cover (rgQ s (pickQ s f n) n).1 (rgQ s (pickQ s f n) n).2 n)
  | _ => []
set_option maxHeartbeats 4000000 in
theorem ok19 (s : List Att) (hs : s.length ≤ 1000000) (f : List Prd) (hf : ∀ q ∈ f, q.nm.size ≤ 1000) (n : Int) : Go.Am.Pure Tryd.prog 19 [slF atC s, slF prC f, .d (nI n)] (.tuple [slS (ofL s f n), .d (geD (chooseE s f n))]) := by
  refine CallOk.softG ?_
  refine CallOk.of tysOk mixed od19 Tryd.func19 rfl rfl code19 ?_
  have k1 := ok14 s hs f n
  have bad : ∀ {e : GE}, chooseE s f n = e → e ≠ .ok → RetQ ([] : Store).length (fun v s' => v.softG = .tuple [slS (ofL s f n), .d (geD (chooseE s f n))] ∧ s' = []) .ret [(0, mkRet [.d (.lit (.slice none 0 0)), .d (geD e)])] [] := fun {e} h1 h2 => by
    have e1 : ofL s f n = [] := by
      unfold ofL
      rw [h1]
      cases e with
      | ok => exact absurd rfl h2
      | _ => rfl
    refine RetQ.part [] (by decide) (by simp) (by simp) ⟨?_, rfl⟩
    rw [e1, h1]
    cases e <;> rfl
  cases hc : chooseE s f n with
  | arg =>
    rw [hc] at k1
    refine W.pure k1 rfl rfl ?_
    repeat (first | refine W.ite_t rfl ?_ | refine W.ite_f rfl ?_)
    have := bad hc (by simp)
    rw [hc] at this
    exact W.ret this
  | val i =>
    rw [hc] at k1
    refine W.pure k1 rfl rfl ?_
    repeat (first | refine W.ite_t rfl ?_ | refine W.ite_f rfl ?_)
    have := bad hc (by simp)
    rw [hc] at this
    exact W.ret this
  | ok =>
  clear bad
  have hfine := chooseE_ok.1 hc
  obtain ⟨j, q, hj, hjl, hq, _⟩ := hfine.best
  have hci : chooseI s f n = j := by unfold chooseI; rw [hc]; exact hj
  have hpq : pickQ s f n = q := by unfold pickQ; rw [hj]; simp [hq]
  have hof : ofL s f n = names q.nm (Dy.cover (rgQ s q n).1 (rgQ s q n).2 n) := by unfold ofL; rw [hc]; simp only [hpq]
  rw [hc, hci] at k1
  rw [hof]
  have hqm := List.mem_of_getElem? hq
  obtain ⟨k, a, hk, ha, hat, hga, hpo, hsm⟩ := hfine.prd hqm
  have hkl := (List.getElem?_eq_some_iff.1 ha).1
  have hrq : rgQ s q n = rgA a q n := by unfold rgQ; rw [hat]
  have hnm := hf q hqm
  refine W.pure k1 rfl rfl ?_
  repeat (first | refine W.ite_t rfl ?_ | refine W.ite_f rfl ?_)
  refine W.need (ix_ok prC_len (by decide) hjl) ?_
  refine W.ld (prF0 hq) ?_
  refine W.need (ix_ok prC_len (by decide) hjl) ?_
  refine W.ld (prE hq) ?_
  refine W.pure (hk ▸ ok16 s (by omega) q.nm) rfl rfl ?_
  refine W.need (ix_ok atC_len (by decide) hkl) ?_
  refine W.ld (atE ha) ?_
  refine W.pure (Dy.ok15' a q n hsm) rfl rfl ?_
  have kc := Dy.ok35 (rgA a q n).1 (rgA a q n).2 n
  rw [hrq]
  have hsmall := cover_small (rgA a q n).1 (rgA a q n).2 n
  have hlen := Dy.cover_len (rgA a q n).1 (rgA a q n).2 n
  generalize Dy.cover (rgA a q n).1 (rgA a q n).2 n = C at *
  rw [slI_flat] at kc
  refine W.pure kc rfl rfl ?_
  refine W.loop (fun k fr σ => ∃ i : Nat, fr = [(1, slF prC f), (8, .d (nI j)), (47, slF ivC C), (48, .d (nI C.length)), (49, .d (nI i)), (12, .vec 0 i)] ∧ σ = [.vec 1 i (flat sC (names q.nm (C.take i)))] ∧ i ≤ C.length ∧ k = C.length - i) C.length
    (Start.of [1, 8, 47, 48, 49] [(12, 1)] (by simp; rfl)) ⟨0, rfl, rfl, by omega, rfl⟩ ?_
  rintro k fr σ ⟨i, rfl, rfl, hi, rfl⟩
  refine W.ite (fun c1 => ?_) (fun c1 => ?_)
  · have hil : i < C.length := by have := of_decide_eq_true c1; omega
    obtain ⟨p, hp⟩ : ∃ x, C[i]? = some x := ⟨_, List.getElem?_eq_getElem hil⟩
    obtain ⟨s1, s2, s3, s4⟩ := hsmall p (List.mem_of_getElem? hp)
    refine W.need (ix_ok ivC_len (by decide) hil) ?_
    refine W.ld (ivE hp) ?_
    refine W.need (ix_ok prC_len (by decide) hjl) ?_
    refine W.ld (prF0 hq) ?_
    have kn := ok11 q.nm p.1.toNat p.2.toNat hnm (by omega) (by omega)
    rw [show ((p.1.toNat : Nat) : Int) = p.1 from by omega, show ((p.2.toNat : Nat) : Int) = p.2 from by omega] at kn
    refine W.pure kn rfl rfl ?_
    refine W.alt_l ?_
    refine W.need ⟨rfl, rfl, rfl, by omega, by omega, by intro c hc; obtain rfl := List.mem_singleton.1 hc; rfl⟩ ?_
    have g1 : IntKind.i64.wrap ((i : Int) + 1) = ((i + 1 : Nat) : Int) := by rw [wrap64 (by omega) (by omega)]; rfl
    refine W.ret ⟨_, _, _, ?_, Trim.of [1, 8, 47, 48, 49, 12] [0] (by decide) (by simp) (by simp), i + 1, ?_, ?_, by omega, rfl⟩
    · omega
    · rw [← g1]; rfl
    · rw [names_take hp, flat_append]; rfl
  · have hil : i = C.length := by have := of_decide_eq_false c1; omega
    refine W.ret (W.ret ?_)
    refine RetQ.part [] (by decide) (by simp) (by simp) ⟨?_, rfl⟩
    show AV.tuple [.d (.sl i ((flat sC (names q.nm (C.take i))).take (i * 1))), .d (.lit .nilIface)] = _
    have hl : (names q.nm C).length = C.length := by simp [names]
    rw [hil, List.take_length, ← hl, flat_all sC_len]
    rfl
end Go.Proofs.YtbjjimllnffcpaaDoor.Gr
