import Derived.Test.YtddhlmejaobcgaaBKt
set_option maxRecDepth 100000
set_option linter.unusedVariables false
set_option linter.unusedSimpArgs false
set_option linter.ambiguousOpen false
/- The two rings at each point of the walk. -/
namespace Go.Proofs.Ytddhlmejaobcgaa.Bk
open Go Go.Am Co Pi
theorem stabM_keys (M : List Ent) (n : Int) : (stabM M n).map (·.1) = M.map (·.1) := by
  unfold stabM stab2 stab1
  rw [setM_keys]
  split
  · rw [setM_keys, setM_keys]
  · rw [setM_keys]
theorem fold_keys : ∀ (l : List Int) (M : List Ent), (l.foldl stabM M).map (·.1) = M.map (·.1)
  | [], _ => rfl
  | n :: l, M => by rw [List.foldl_cons, fold_keys l, stabM_keys]
theorem fnd_keys {M : List Ent} {k : Int} (h : fndM M k ≠ none) : k ∈ M.map (·.1) := by
  cases hf : fndM M k with
  | none => exact absurd hf h
  | some e =>
    obtain ⟨h1, h2⟩ := fndM_mem hf
    exact List.mem_map.2 ⟨e, h1, h2⟩
theorem RingAt.keep {H H' : HMap} {s bs r b : Nat} {Ms M : List Ent} (h : RingAt H s bs Ms) (k : Keeps H H' r b M) (d : ∀ a ∈ s :: bs :: Ms.map (·.2.1), a ∉ r :: b :: M.map (·.2.1)) : RingAt H' s bs Ms :=
  ⟨k _ _ (d _ (by simp)) h.ring, k _ _ (d _ (by simp)) h.map, fun e he => k _ _ (d _ (List.mem_cons_of_mem _ (List.mem_cons_of_mem _ (List.mem_map.2 ⟨e, he, rfl⟩)))) (h.mem e he), h.nd, h.bl⟩
theorem RingAt.there {H : HMap} {s bs : Nat} {Ms : List Ent} (h : RingAt H s bs Ms) : ∀ a ∈ s :: bs :: Ms.map (·.2.1), H a ≠ none := fun a ha => by
  rcases List.mem_cons.1 ha with rfl | ha
  · rw [h.ring]; simp
  · rcases List.mem_cons.1 ha with rfl | ha
    · rw [h.map]; simp
    · obtain ⟨e, he, rfl⟩ := List.mem_map.1 ha
      rw [h.mem e he]; simp
/-- The two rings; who of the guests is there; how many came. -/
structure Stt (H : HMap) (r b : Nat) (M : List Ent) (s bs : Nat) (Ms : List Ent) (l : List Int) (i : Nat) : Prop where
  ra : RingAt H r b M
  rs : RingAt H s bs Ms
  dis : ∀ a ∈ s :: bs :: Ms.map (·.2.1), a ∉ r :: b :: M.map (·.2.1)
  inv : Inv M
  len : M.length ≤ 4 + i
  keys : ∀ k ∈ M.map (·.1), k < 4 + (i : Int)
  lv : ∀ k, livesM M k = true ↔ (0 ≤ k ∧ k < 4) ∨ k ∈ l
  big : ∀ k ∈ l, 4 ≤ k
  nd : l.Nodup
  ln : l.length ≤ i
theorem Stt.small {H r b M s bs Ms l i} (h : Stt H r b M s bs Ms l i) {k : Int} (hk : k ∈ l) : k < 4 + (i : Int) := h.keys k (fnd_keys (lives_fnd ((h.lv k).2 (.inr hk))))
theorem Stt.no {H r b M s bs Ms l i} (h : Stt H r b M s bs Ms l i) : fndM M (4 + (i : Int)) = none := by
  cases hf : fndM M (4 + (i : Int)) with
  | none => rfl
  | some e => have := h.keys _ (fnd_keys (k := 4 + (i : Int)) (by rw [hf]; simp)); omega
theorem Stt.skip {H r b M s bs Ms l i} (h : Stt H r b M s bs Ms l i) {H' : HMap} (hK : Keeps H H' r b M) (hR : RingAt H' r b M) : Stt H' r b M s bs Ms l (i + 1) :=
  ⟨hR, h.rs.keep hK h.dis, h.dis, h.inv, by have := h.len; omega, fun k hk => by have := h.keys k hk; omega, h.lv, h.big, h.nd, by have := h.ln; omega⟩
theorem Stt.same {H r b M s bs Ms l i} (h : Stt H r b M s bs Ms l i) {H' : HMap} (hK : Keeps H H' r b M) (hR : RingAt H' r b M) : Stt H' r b M s bs Ms l i :=
  ⟨hR, h.rs.keep hK h.dis, h.dis, h.inv, h.len, h.keys, h.lv, h.big, h.nd, h.ln⟩
theorem Stt.join {H r b M s bs Ms l i} (h : Stt H r b M s bs Ms l i) {H' : HMap} {M' : List Ent} {id : Int} (hid : rgP id) (hj : Joined M M' (4 + (i : Int)) id) (hnew : ∀ e ∈ M', e ∈ M ∨ H e.2.1 = none) (hK : Keeps H H' r b M) (hR : RingAt H' r b M') :
    Stt H' r b M' s bs Ms (l ++ [4 + (i : Int)]) (i + 1) := by
  obtain ⟨j1, j2, j3, j4, j5⟩ := h.inv.join h.no (by omega) hid hj
  refine ⟨hR, h.rs.keep hK h.dis, fun a ha hb => ?_, j1, by have := h.len; omega, fun k hk => ?_, fun k => ?_, fun k hk => ?_, ?_, ?_⟩
  · have hd := h.dis a ha
    rcases List.mem_cons.1 hb with k | hb
    · exact hd (by rw [k]; exact List.mem_cons_self)
    · rcases List.mem_cons.1 hb with k | hb
      · exact hd (by rw [k]; exact List.mem_cons_of_mem _ List.mem_cons_self)
      · obtain ⟨e, he, rfl⟩ := List.mem_map.1 hb
        rcases hnew e he with k | k
        · exact hd (List.mem_cons_of_mem _ (List.mem_cons_of_mem _ (List.mem_map.2 ⟨e, k, rfl⟩)))
        · exact h.rs.there _ ha k
  · obtain ⟨e, he, rfl⟩ := List.mem_map.1 hk
    by_cases hn : e.1 = 4 + (i : Int)
    · rw [hn]; push_cast; omega
    · have hf : fndM M' e.1 ≠ none := by rw [fndM_of hR.nd he]; simp
      rw [j4 _ hn] at hf
      have := h.keys _ (fnd_keys hf)
      push_cast; omega
  · rw [j2]
    by_cases hn : k = 4 + (i : Int)
    · rw [if_pos hn]; simp [hn]
    · rw [if_neg hn, h.lv k]; simp [hn]
  · rcases List.mem_append.1 hk with k1 | k1
    · exact h.big k k1
    · obtain rfl := List.mem_singleton.1 k1; omega
  · rw [List.nodup_append]
    refine ⟨h.nd, by simp, fun x hx y hy e => ?_⟩
    obtain rfl := List.mem_singleton.1 hy
    have := h.small hx
    omega
  · rw [List.length_append]; have := h.ln; simp only [List.length_cons, List.length_nil]; omega
theorem live_in {M : List Ent} {ls : List Int} (hl : LiveOf M ls) : ∀ n ∈ ls, livesM M n = true := fun n hn => (hl.all n).1 hn
theorem Stt.round {H r b M s bs Ms l i} (h : Stt H r b M s bs Ms l i) {ls : List Int} (hl : LiveOf M ls) {H' : HMap} (hK : Keeps H H' r b M) (hR : RingAt H' r b (ls.foldl stabM M)) : Stt H' r b (ls.foldl stabM M) s bs Ms l i := by
  obtain ⟨g1, g2, g3⟩ := fold_good good ls M h.inv (live_in hl)
  refine ⟨hR, h.rs.keep hK h.dis, by rw [g3]; exact h.dis, g1, ?_, by rw [fold_keys]; exact h.keys, fun k => by rw [g2]; exact h.lv k, h.big, h.nd, h.ln⟩
  have := congrArg List.length g3
  simp only [List.length_map] at this
  rw [this]; exact h.len
theorem Stt.kill {H r b M s bs Ms i} {la lb : List Int} {x : Int} (h : Stt H r b M s bs Ms (la ++ x :: lb) i) (hm : mayM M x) {H' : HMap} (hK : Keeps H H' r b M) (hR : RingAt H' r b (killM M x)) : Stt H' r b (killM M x) s bs Ms (la ++ lb) i := by
  have hx : x ∈ la ++ x :: lb := by simp
  have hlx := (h.lv x).2 (.inr hx)
  have h4 := h.big x hx
  have hnd := h.nd
  have hper : (la ++ x :: lb).Perm (x :: (la ++ lb)) := List.perm_middle
  have hnd2 := List.nodup_cons.1 (hper.nodup_iff.1 hnd)
  have hb : (killM M x).map (·.2.1) = M.map (·.2.1) := by unfold killM; rw [setM_blks]
  refine ⟨hR, h.rs.keep hK h.dis, by rw [hb]; exact h.dis, h.inv.kill hlx h4 hm, by unfold killM; rw [setM_len]; exact h.len, by unfold killM; rw [setM_keys]; exact h.keys, fun k => ?_, fun k hk => h.big k (hper.mem_iff.2 (List.mem_cons_of_mem _ hk)), hnd2.2, ?_⟩
  · rw [kill_lives hlx]
    by_cases e : k = x
    · rw [if_pos e]
      subst e
      refine ⟨(fun k => by cases k), fun k => k.elim (fun q => by omega) fun q => absurd q hnd2.1⟩
    · rw [if_neg e, h.lv k, hper.mem_iff]
      simp [e]
  · have := h.ln
    have e := hper.length_eq
    rw [List.length_cons] at e
    omega
/-! ### what a round brings -/
def all1 (M : List Ent) : Prop := ∀ n, livesM M n = true → P1 M n
def all2 (M : List Ent) : Prop := ∀ n, livesM M n = true → P2 M n
def pot (M : List Ent) (c : Nat) : Prop := (1 ≤ c → all1 M) ∧ (2 ≤ c → all2 M)
theorem pot_zero (M : List Ent) : pot M 0 := ⟨fun h => by omega, fun h => by omega⟩
theorem pot_round {M : List Ent} (hi : Inv M) {c : Nat} (h : pot M c) {ls : List Int} (hl : LiveOf M ls) : pot (ls.foldl stabM M) (if c = 0 then 1 else 2) := by
  obtain ⟨g1, g2, g3⟩ := fold_good good ls M hi (live_in hl)
  have a1 : all1 (ls.foldl stabM M) := fun n hn => by
    rw [g2] at hn
    exact fold_P1 ls M hi (live_in hl) n (.inl ((hl.all n).2 hn))
  refine ⟨fun _ => a1, fun k => ?_⟩
  by_cases hc : c = 0
  · rw [if_pos hc] at k; omega
  · intro n hn
    rw [g2] at hn
    exact fold_P2 ls M hi (live_in hl) (h.1 (by omega)) n (.inl ((hl.all n).2 hn))
/-! ### the base members alone -/
def bas (M : List Ent) (j : Nat) : Prop := (1 ≤ j → ∀ k, 0 ≤ k ∧ k < 4 → F1 M k ∧ Fp M k) ∧ (2 ≤ j → ∀ k, 0 ≤ k ∧ k < 4 → F2 M k) ∧ (3 ≤ j → ∀ k, 0 ≤ k ∧ k < 4 → F3 M k)
theorem bas_zero (M : List Ent) : bas M 0 := ⟨fun h => by omega, fun h => by omega, fun h => by omega⟩
theorem only_of {H r b M s bs Ms i} (h : Stt H r b M s bs Ms [] i) : OnlyB M := fun k => by rw [h.lv k]; simp
theorem bas_round {M : List Ent} (hi : Inv M) (ho : OnlyB M) {j : Nat} (h : bas M j) {ls : List Int} (hl : LiveOf M ls) : bas (ls.foldl stabM M) (j + 1) := by
  obtain ⟨f1, f2, f3⟩ := fold_base ls M hi ho fun n hn => (ho n).1 ((hl.all n).1 hn)
  have hin : ∀ k, 0 ≤ k ∧ k < 4 → k ∈ ls := fun k hk => (hl.all k).2 ((ho k).2 hk)
  exact ⟨fun _ k hk => ⟨(f3 k hk).1 (.inl (hin k hk)), (f3 k hk).2.1 (.inl (hin k hk))⟩, fun h2 k hk => (f3 k hk).2.2.1 (fun q hq => (h.1 (by omega) q hq).1) (.inl (hin k hk)),
    fun h3 k hk => (f3 k hk).2.2.2 (fun q hq => (h.1 (by omega) q hq).1) (h.2.1 (by omega)) (.inl (hin k hk))⟩
theorem bas_get {M : List Ent} (hi : Inv M) (ho : OnlyB M) {n : Nat} (hn : 3 ≤ n) (h : bas M n) (j : Nat) (hj : j < 4) : getM M (j : Int) = idealM j := by
  have hjr : 0 ≤ (j : Int) ∧ (j : Int) < 4 := by omega
  have e1 := (h.1 (by omega) j hjr).1
  have e2 := h.2.1 (by omega) j hjr
  have e3 := h.2.2 (by omega) j hjr
  have hpr : 0 ≤ md ((j : Int) - 1) ∧ md ((j : Int) - 1) < 4 := by unfold md; omega
  have ep := (h.1 (by omega) _ hpr).2
  have en : nxt (md ((j : Int) - 1)) = j := by unfold nxt md; omega
  unfold Fp at ep
  rw [en] at ep
  have el : (getM M (j : Int)).lv = true := by rw [← lives_get]; exact (ho _).2 hjr
  have ei : (getM M (j : Int)).id = z4 j := by rw [← id_get]; exact (hi.base j hjr.1 hjr.2).2
  unfold F1 at e1
  unfold F2 at e2
  unfold F3 at e3
  have d1 : nxt (j : Int) = md ((j : Int) + 1) := by unfold nxt md; omega
  have d2 : nxt (nxt (j : Int)) = md ((j : Int) + 2) := by unfold nxt md; omega
  have d3 : nxt (nxt (nxt (j : Int))) = md ((j : Int) + 3) := by unfold nxt md; omega
  rw [d1] at e1
  rw [d2] at e2
  rw [d3] at e3
  generalize getM M (j : Int) = m at *
  obtain ⟨m1, m2, m3, m4, m5, m6⟩ := m
  unfold idealM
  simp only at e1 e2 e3 ep el ei
  rw [e1, e2, e3, ep, el, ei]
theorem four {M : List Ent} (ho : OnlyB M) {ls : List Int} (hl : LiveOf M ls) : ls.length = 4 := by
  have hn : ls.Nodup := hl.rise.imp fun h => by omega
  have hp : ls.Perm [0, 1, 2, 3] := (List.perm_ext_iff_of_nodup hn (by decide)).2 fun a => by
    rw [hl.all a, ho a]
    simp only [List.mem_cons, List.mem_nil_iff, or_false]
    omega
  exact hp.length_eq
/-- At the beginning. -/
theorem Stt.start {H1 H2 : HMap} {r b s bs : Nat} {M Ms : List Ent} {H0 : HMap} (h1 : Fresh H0 H1 r b M) (h2 : Fresh H1 H2 s bs Ms) (k1 : Ideal M) : Stt H2 r b M s bs Ms [] 0 := by
  refine ⟨h1.ring.ext h2.ext, h2.ring, fun a ha hb => ?_, k1.inv, by rw [k1.len]; exact Nat.le_refl _, fun k hk => ?_, fun k => by rw [k1.only k]; simp, (fun k hk => by cases hk), List.nodup_nil, Nat.le_refl _⟩
  · exact h1.ring.there a hb (h2.new a ha)
  · obtain ⟨e, he, rfl⟩ := List.mem_map.1 hk
    have := (k1.keys e.1 (by rw [fndM_of h1.ring.nd he]; simp)).2
    omega
end Go.Proofs.Ytddhlmejaobcgaa.Bk
