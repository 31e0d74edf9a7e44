import Derived.Test.YtddhlmejaobcgaaBA
set_option maxRecDepth 100000
set_option linter.unusedVariables false
set_option linter.unusedSimpArgs false
set_option linter.ambiguousOpen false
/- Rings, as functions of addresses: what stays. -/
namespace Go.Proofs.Ytddhlmejaobcgaa.Bk
open Go Go.Am Co Pi
/-! ### the circle -/
theorem dist_mod (a b : Int) : distI a b = (b - a) % 18446744073709551616 := wrapU_mod _
def isBase (c : Int) : Prop := c = 10 ∨ c = 20 ∨ c = 30 ∨ c = 40
/-- From one place to another one, no base place is passed. -/
def okP (x y : Int) : Prop := 0 < distI x y ∧ ∀ c, isBase c → distI x c = 0 ∨ distI x y ≤ distI x c
def rgP (x : Int) : Prop := 0 ≤ x ∧ x < 18446744073709551616
theorem okP_trans {x y z : Int} (hx : rgP x) (hy : rgP y) (hz : rgP z) (h : okP x y) (k : okP y z) (hb : ¬ isBase y) : okP x z := by
  obtain ⟨h1, h2⟩ := h
  obtain ⟨k1, k2⟩ := k
  have key : ∀ c, isBase c → distI x c = 0 ∨ (distI x y + distI y z ≤ distI x c) := fun c hc => by
    have hyc : c ≠ y := fun e => hb (e ▸ hc)
    have hr : 10 ≤ c ∧ c ≤ 40 := by rcases hc with rfl | rfl | rfl | rfl <;> omega
    rcases h2 c hc with h | h
    · exact .inl h
    · right
      rcases k2 c hc with k | k
      · simp only [dist_mod] at *; unfold rgP at *; omega
      · simp only [dist_mod] at *; unfold rgP at *; omega
  have big : ∃ c, isBase c ∧ distI x c ≠ 0 := by
    by_cases e : distI x 10 = 0
    · refine ⟨20, .inr (.inl rfl), ?_⟩
      simp only [dist_mod] at *; unfold rgP at *; omega
    · exact ⟨10, .inl rfl, e⟩
  have sum : distI x z = distI x y + distI y z := by
    obtain ⟨c, hc, hn⟩ := big
    have hr : 10 ≤ c ∧ c ≤ 40 := by rcases hc with rfl | rfl | rfl | rfl <;> omega
    have := (key c hc).resolve_left hn
    have hlt : distI x c < 18446744073709551616 := by rw [dist_mod]; omega
    simp only [dist_mod] at *
    unfold rgP at *
    omega
  refine ⟨by omega, fun c hc => ?_⟩
  rw [sum]
  exact key c hc
/-- What lies within is no further. -/
theorem okP_within {x q y : Int} (hx : rgP x) (hq : rgP q) (hy : rgP y) (h : okP x y) (hw : withinB q x y = true) : okP x q ∧ okP q y := by
  obtain ⟨h1, h2⟩ := h
  have hne : x ≠ y := by rintro rfl; rw [dist_mod] at h1; omega
  unfold withinB at hw
  rw [if_neg (by simpa using hne)] at hw
  split at hw
  · rename_i hqx
    have hqx : q ≠ x := by simpa using hqx
    have hlt : distI x q < distI x y := of_decide_eq_true hw
    have h0 : 0 < distI x q := by simp only [dist_mod]; unfold rgP at *; omega
    refine ⟨⟨h0, fun c hc => (h2 c hc).imp id fun k => by omega⟩, ?_⟩
    have e : distI q y = distI x y - distI x q := by simp only [dist_mod] at *; unfold rgP at *; omega
    refine ⟨by omega, fun c hc => ?_⟩
    have hr : 10 ≤ c ∧ c ≤ 40 := by rcases hc with rfl | rfl | rfl | rfl <;> omega
    right
    rw [e]
    rcases h2 c hc with k | k
    · simp only [dist_mod] at *; unfold rgP at *; omega
    · simp only [dist_mod] at *; unfold rgP at *; omega
  · cases hw
end Go.Proofs.Ytddhlmejaobcgaa.Bk

set_option maxRecDepth 100000
set_option linter.unusedVariables false
set_option linter.unusedSimpArgs false
set_option linter.ambiguousOpen false
/- What holds of a ring at all times. -/
namespace Go.Proofs.Ytddhlmejaobcgaa.Bk
open Go Go.Am Co Pi
/-- Of a list, those that live follow each other, no base place passed. -/
def chainM (M : List Ent) : Int → List Int → Prop
  | _, [] => True
  | x, a :: l => (livesM M a = true → okP x (idM M a) ∧ chainM M (idM M a) l) ∧ (livesM M a = false → chainM M x l)
structure Inv (M : List Ent) : Prop where
  base : ∀ c, 0 ≤ c → c < 4 → livesM M c = true ∧ idM M c = 10 * (c + 1)
  rg : ∀ n, livesM M n = true → rgP (idM M n)
  nn : ∀ n, livesM M n = true → 0 ≤ n
  inj : ∀ n k, livesM M n = true → livesM M k = true → idM M n = idM M k → n = k
  head : ∀ n, livesM M n = true → livesM M (hdM M (getM M n)) = true
  used : ∀ n, livesM M n = true → ∀ a ∈ (getM M n).su, fndM M a ≠ none
  chain : ∀ n, livesM M n = true → chainM M (idM M n) (getM M n).su
theorem chain_congr {M M' : List Ent} (hi : ∀ k, idM M' k = idM M k) : ∀ (l : List Int) (x : Int), (∀ a ∈ l, livesM M' a = livesM M a) → chainM M x l → chainM M' x l
  | [], _, _, h => h
  | a :: l, x, hl, h => by
    have ha := hl a List.mem_cons_self
    have hl' : ∀ b ∈ l, livesM M' b = livesM M b := fun b hb => hl b (List.mem_cons_of_mem _ hb)
    refine ⟨fun k => ?_, fun k => ?_⟩
    · rw [ha] at k
      rw [hi]
      exact ⟨(h.1 k).1, chain_congr hi l _ hl' (h.1 k).2⟩
    · rw [ha] at k
      exact chain_congr hi l _ hl' (h.2 k)
theorem hd_congr {M M' : List Ent} {m : Mb} (hl : ∀ a ∈ m.su, livesM M' a = livesM M a) : hdM M' m = hdM M m := by
  unfold hdM
  rw [hl m.s1 (by simp [Mb.su]), hl m.s2 (by simp [Mb.su]), hl m.s3 (by simp [Mb.su])]
theorem lives_fnd {M : List Ent} {n : Int} (h : livesM M n = true) : fndM M n ≠ none := by
  obtain ⟨e, he, _⟩ := lives_some h
  rw [he]; simp
theorem hd_lives {M : List Ent} {m : Mb} (h : hdM M m ≠ -1) : livesM M (hdM M m) = true := by
  unfold hdM at h ⊢
  by_cases h1 : livesM M m.s1 = true
  · rw [if_pos h1]; exact h1
  · rw [if_neg h1] at h ⊢
    by_cases h2 : livesM M m.s2 = true
    · rw [if_pos h2]; exact h2
    · rw [if_neg h2] at h ⊢
      by_cases h3 : livesM M m.s3 = true
      · rw [if_pos h3]; exact h3
      · rw [if_neg h3] at h; exact absurd rfl h
theorem bnot {b : Bool} (h : ¬ b = true) : b = false := by cases b <;> simp_all
/-- The first one behind is behind. -/
theorem chain_hd {M : List Ent} {x : Int} {m : Mb} (hc : chainM M x m.su) (hh : livesM M (hdM M m) = true) (hneg : livesM M (-1) = false) : okP x (idM M (hdM M m)) := by
  obtain ⟨c1, c2⟩ := hc
  unfold hdM at hh ⊢
  by_cases h1 : livesM M m.s1 = true
  · rw [if_pos h1]; exact (c1 h1).1
  · rw [if_neg h1] at hh ⊢
    obtain ⟨c3, c4⟩ := c2 (bnot h1)
    by_cases h2 : livesM M m.s2 = true
    · rw [if_pos h2]; exact (c3 h2).1
    · rw [if_neg h2] at hh ⊢
      obtain ⟨c5, c6⟩ := c4 (bnot h2)
      by_cases h3 : livesM M m.s3 = true
      · rw [if_pos h3]; exact (c5 h3).1
      · rw [if_neg h3, hneg] at hh; cases hh
theorem Inv.neg {M : List Ent} (h : Inv M) : livesM M (-1) = false := by
  cases hc : livesM M (-1) with
  | false => rfl
  | true => have := h.nn _ hc; omega
theorem get_set {M : List Ent} {n : Int} (hn : livesM M n = true) (m : Mb) (k : Int) : getM (setM M n m) k = if k = n then m else getM M k := by
  obtain ⟨e, he, _⟩ := lives_some hn
  exact getM_set he m k
theorem fnd_set {M : List Ent} {n : Int} (m : Mb) (k : Int) : fndM (setM M n m) k ≠ none ↔ fndM M k ≠ none := by
  rw [fndM_set]
  cases fndM M k <;> simp
theorem Inv.set {M : List Ent} (h : Inv M) {n : Int} (hn : livesM M n = true) {m : Mb} (hlv : m.lv = true) (hid : m.id = idM M n) (hh : livesM M (hdM M m) = true) (hu : ∀ a ∈ m.su, fndM M a ≠ none) (hc : chainM M (idM M n) m.su) :
    Inv (setM M n m) ∧ (∀ k, livesM (setM M n m) k = livesM M k) ∧ ∀ k, idM (setM M n m) k = idM M k := by
  have hl : ∀ k, livesM (setM M n m) k = livesM M k := fun k => by
    rw [lives_get, get_set hn]
    split
    · rename_i e; rw [hlv, e, hn]
    · rw [lives_get]
  have hi : ∀ k, idM (setM M n m) k = idM M k := fun k => by
    rw [id_get, get_set hn]
    split
    · rename_i e; rw [hid, e]
    · rw [id_get]
  refine ⟨⟨fun c h0 h4 => ?_, fun k hk => ?_, fun k hk => ?_, fun k j hk hj e => ?_, fun k hk => ?_, fun k hk a ha => ?_, fun k hk => ?_⟩, hl, hi⟩
  · rw [hl, hi]; exact h.base c h0 h4
  · rw [hl] at hk; rw [hi]; exact h.rg k hk
  · rw [hl] at hk; exact h.nn k hk
  · rw [hl] at hk hj; rw [hi, hi] at e; exact h.inj k j hk hj e
  · rw [hl] at hk
    rw [get_set hn]
    split
    · rw [hd_congr fun a _ => hl a, hl]; exact hh
    · rw [hd_congr fun a _ => hl a, hl]; exact h.head k hk
  · rw [hl] at hk
    rw [fnd_set]
    rw [get_set hn] at ha
    split at ha
    · exact hu a ha
    · exact h.used k hk a ha
  · rw [hl] at hk
    rw [hi]
    refine chain_congr hi _ _ (fun a _ => hl a) ?_
    rw [get_set hn]
    split
    · rename_i e; rw [e]; exact hc
    · exact h.chain k hk
theorem chain_two {M : List Ent} {x a b c : Int} (h : chainM M x [a, b, c]) : chainM M x [a, b] := by
  refine ⟨fun k => ⟨(h.1 k).1, fun k2 => ⟨(((h.1 k).2).1 k2).1, trivial⟩, fun k2 => trivial⟩, fun k => ⟨fun k2 => ⟨((h.2 k).1 k2).1, trivial⟩, fun k2 => trivial⟩⟩
/-- A list that is taken over. -/
theorem Inv.fol {M : List Ent} (h : Inv M) {n s : Int} (hn : livesM M n = true) (hs : livesM M s = true) (hok : okP (idM M n) (idM M s)) {m : Mb} (hm : m.lv = true) (hid : m.id = idM M n) :
    Inv (setM M n (folM m s (getM M s))) ∧ (∀ k, livesM (setM M n (folM m s (getM M s))) k = livesM M k) ∧ ∀ k, idM (setM M n (folM m s (getM M s))) k = idM M k := by
  refine h.set hn hm hid ?_ ?_ ?_
  · have : hdM M (folM m s (getM M s)) = s := by unfold hdM folM; simp [hs]
    rw [this]; exact hs
  · intro a ha
    have ha : a ∈ [s, (getM M s).s1, (getM M s).s2] := ha
    simp only [List.mem_cons, List.mem_nil_iff, or_false] at ha
    rcases ha with rfl | rfl | rfl
    · exact lives_fnd hs
    · exact h.used s hs _ (by simp [Mb.su])
    · exact h.used s hs _ (by simp [Mb.su])
  · show chainM M (idM M n) [s, (getM M s).s1, (getM M s).s2]
    exact ⟨fun _ => ⟨hok, chain_two (h.chain s hs)⟩, fun k => by rw [hs] at k; cases k⟩
theorem near_true {M : List Ent} {q f t : Int} (h : nearB M q f t = true) : livesM M q = true ∧ withinB (idM M q) f (idM M t) = true := by
  unfold nearB at h
  split at h
  · split at h
    · exact ⟨by assumption, h⟩
    · cases h
  · cases h
theorem rec_keep (M : List Ent) (m : Mb) (n : Int) : (recM M m n).lv = m.lv ∧ (recM M m n).id = m.id ∧ (recM M m n).su = m.su := by
  unfold recM; split <;> exact ⟨rfl, rfl, rfl⟩
theorem hd_su {M : List Ent} {m m' : Mb} (h : m'.su = m.su) : hdM M m' = hdM M m := by
  have h : [m'.s1, m'.s2, m'.s3] = [m.s1, m.s2, m.s3] := h
  injection h with h1 h
  injection h with h2 h
  injection h with h3 _
  unfold hdM
  rw [h1, h2, h3]
theorem Inv.stab {M : List Ent} (h : Inv M) {n : Int} (hn : livesM M n = true) : Inv (stabM M n) ∧ (∀ k, livesM (stabM M n) k = livesM M k) ∧ ∀ k, idM (stabM M n) k = idM M k := by
  have hs := h.head n hn
  have hok := chain_hd (h.chain n hn) hs h.neg
  obtain ⟨i1, l1, d1⟩ := h.fol hn hs hok (m := getM M n) (by rw [← lives_get]; exact hn) (by rw [id_get])
  have e1 : stab1 M n = setM M n (folM (getM M n) (hdM M (getM M n)) (getM M (hdM M (getM M n)))) := rfl
  rw [← e1] at i1 l1 d1
  have key : Inv (stab2 M n) ∧ (∀ k, livesM (stab2 M n) k = livesM M k) ∧ (∀ k, idM (stab2 M n) k = idM M k) ∧ livesM M (stabS M n) = true := by
    unfold stab2 stabS
    split
    · rename_i hnb
      obtain ⟨hq, hw⟩ := near_true hnb
      have hn1 : livesM (stab1 M n) n = true := by rw [l1]; exact hn
      have hs1 : livesM (stab1 M n) (hdM M (getM M n)) = true := by rw [l1]; exact hs
      have hok1 : okP (idM (stab1 M n) n) (idM (stab1 M n) (hdM M (getM M n))) := by rw [d1, d1]; exact hok
      have hid : (getM M n).id = idM (stab1 M n) n := by rw [d1, id_get]
      rw [hid] at hw
      have hq2 := (okP_within (i1.rg n hn1) (i1.rg _ hq) (i1.rg _ hs1) hok1 hw).1
      obtain ⟨i2, l2, d2⟩ := i1.fol hn1 hq hq2 (m := getM (stab1 M n) n) (by rw [← lives_get]; exact hn1) (by rw [id_get])
      exact ⟨i2, fun k => by rw [l2, l1], fun k => by rw [d2, d1], by rw [← l1]; exact hq⟩
    · exact ⟨i1, l1, d1, hs⟩
  obtain ⟨i2, l2, d2, hst⟩ := key
  have hst2 : livesM (stab2 M n) (stabS M n) = true := by rw [l2]; exact hst
  obtain ⟨r1, r2, r3⟩ := rec_keep (stab2 M n) (getM (stab2 M n) (stabS M n)) n
  obtain ⟨i3, l3, d3⟩ := i2.set hst2 (m := recM (stab2 M n) (getM (stab2 M n) (stabS M n)) n) (by rw [r1, ← lives_get]; exact hst2) (by rw [r2, id_get]) (by rw [hd_su r3]; exact i2.head _ hst2) (by rw [r3]; exact i2.used _ hst2) (by rw [r3]; exact i2.chain _ hst2)
  exact ⟨i3, fun k => by show livesM (setM _ _ _) k = _; rw [l3, l2], fun k => by show idM (setM _ _ _) k = _; rw [d3, d2]⟩
theorem good : Good Inv := ⟨fun M n h hn => h.head n hn, fun M n h hn => (h.stab hn).1, fun M n h hn => (h.stab hn).2.1⟩
end Go.Proofs.Ytddhlmejaobcgaa.Bk

set_option maxRecDepth 100000
set_option linter.unusedVariables false
set_option linter.unusedSimpArgs false
set_option linter.ambiguousOpen false
/- Members that go, and that come. -/
namespace Go.Proofs.Ytddhlmejaobcgaa.Bk
open Go Go.Am Co Pi
theorem kill_lives {M : List Ent} {n : Int} (hn : livesM M n = true) (k : Int) : livesM (killM M n) k = (if k = n then false else livesM M k) := by
  unfold killM
  rw [lives_get, get_set hn]
  split
  · rfl
  · rw [lives_get]
theorem kill_id {M : List Ent} {n : Int} (hn : livesM M n = true) (k : Int) : idM (killM M n) k = idM M k := by
  unfold killM
  rw [id_get, get_set hn]
  split
  · rename_i e; rw [e, id_get]
  · rw [id_get]
theorem kill_su {M : List Ent} {n : Int} (hn : livesM M n = true) (k : Int) : (getM (killM M n) k).su = (getM M k).su := by
  unfold killM
  rw [get_set hn]
  split
  · rename_i e; rw [e]; rfl
  · rfl
theorem okP_self (x : Int) : ¬ okP x x := fun h => by
  have := h.1
  simp only [dist_mod] at this
  omega
theorem chain_kill {M : List Ent} (h : Inv M) {n : Int} (hn : livesM M n = true) (hb : ¬ isBase (idM M n)) : ∀ (l : List Int),
    (∀ x, rgP x → chainM M x l → chainM (killM M n) x l) ∧ (∀ x, rgP x → okP x (idM M n) → chainM M (idM M n) l → chainM (killM M n) x l)
  | [] => ⟨fun _ _ _ => trivial, fun _ _ _ _ => trivial⟩
  | a :: l => by
    obtain ⟨ih1, ih2⟩ := chain_kill h hn hb l
    refine ⟨fun x hx hc => ⟨fun k => ?_, fun k => ?_⟩, fun x hx ho hc => ⟨fun k => ?_, fun k => ?_⟩⟩
    · rw [kill_lives hn] at k
      split at k
      · cases k
      · rw [kill_id hn]
        exact ⟨(hc.1 k).1, ih1 _ (h.rg a k) (hc.1 k).2⟩
    · rw [kill_lives hn] at k
      split at k
      · rename_i e
        subst e
        exact ih2 x hx (hc.1 hn).1 (hc.1 hn).2
      · exact ih1 x hx (hc.2 k)
    · rw [kill_lives hn] at k
      split at k
      · cases k
      · rw [kill_id hn]
        exact ⟨okP_trans hx (h.rg n hn) (h.rg a k) ho (hc.1 k).1 hb, ih1 _ (h.rg a k) (hc.1 k).2⟩
    · rw [kill_lives hn] at k
      split at k
      · rename_i e
        subst e
        exact absurd (hc.1 hn).1 (okP_self _)
      · exact ih2 x hx ho (hc.2 k)
theorem Inv.noBase {M : List Ent} (h : Inv M) {n : Int} (hn : livesM M n = true) (h4 : 4 ≤ n) : ¬ isBase (idM M n) := fun hb => by
  have key : ∀ c, 0 ≤ c → c < 4 → idM M n = 10 * (c + 1) → False := fun c h0 h1 e => by
    obtain ⟨b1, b2⟩ := h.base c h0 h1
    have := h.inj n c hn b1 (by rw [e, b2])
    omega
  rcases hb with e | e | e | e
  · exact key 0 (by omega) (by omega) (by rw [e]; rfl)
  · exact key 1 (by omega) (by omega) (by rw [e]; rfl)
  · exact key 2 (by omega) (by omega) (by rw [e]; rfl)
  · exact key 3 (by omega) (by omega) (by rw [e]; rfl)
theorem Inv.kill {M : List Ent} (h : Inv M) {n : Int} (hn : livesM M n = true) (h4 : 4 ≤ n) (hm : mayM M n) : Inv (killM M n) := by
  have hb := h.noBase hn h4
  have hl : ∀ k, livesM (killM M n) k = true → livesM M k = true := fun k hk => lives_kill hn k hk
  refine ⟨fun c h0 h1 => ?_, fun k hk => ?_, fun k hk => h.nn k (hl k hk), fun k j hk hj e => ?_, fun k hk => hd_lives (hm k hk), fun k hk a ha => ?_, fun k hk => ?_⟩
  · obtain ⟨b1, b2⟩ := h.base c h0 h1
    rw [kill_lives hn, if_neg (by omega), kill_id hn]
    exact ⟨b1, b2⟩
  · rw [kill_id hn]; exact h.rg k (hl k hk)
  · rw [kill_id hn, kill_id hn] at e; exact h.inj k j (hl k hk) (hl j hj) e
  · rw [kill_su hn] at ha
    have := h.used k (hl k hk) a ha
    unfold killM
    rw [fnd_set]; exact this
  · rw [kill_id hn, kill_su hn]
    exact (chain_kill h hn hb _).1 _ (h.rg k (hl k hk)) (h.chain k (hl k hk))
theorem fnd_app {M : List Ent} {n : Int} (hn : fndM M n = none) (blk : Nat) (m : Mb) (k : Int) : fndM (M ++ [(n, blk, m)]) k = if k = n then some (n, blk, m) else fndM M k := by
  unfold fndM
  rw [List.find?_append]
  by_cases e : k = n
  · subst e
    rw [if_pos rfl]
    unfold fndM at hn
    rw [hn]
    simp
  · rw [if_neg e]
    have : (n == k) = false := beq_eq_false_iff_ne.2 (Ne.symm e)
    rw [List.find?_cons, this]
    simp
theorem get_app {M : List Ent} {n : Int} (hn : fndM M n = none) (blk : Nat) (m : Mb) (k : Int) : getM (M ++ [(n, blk, m)]) k = if k = n then m else getM M k := by
  unfold getM
  rw [fnd_app hn]
  by_cases e : k = n
  · rw [if_pos e, if_pos e]
  · rw [if_neg e, if_neg e]
theorem Inv.join {M M' : List Ent} (h : Inv M) {n id : Int} (hn : fndM M n = none) (h0 : 0 ≤ n) (hid : rgP id) (hj : Joined M M' n id) : Inv M' ∧ (∀ k, livesM M' k = if k = n then true else livesM M k) ∧ fndM M' n ≠ none ∧ (∀ k, k ≠ n → fndM M' k = fndM M k) ∧ M'.length = M.length + 1 := by
  obtain ⟨p, blk, hp, hw, hun, rfl⟩ := hj
  have hpn : p ≠ n := by rintro rfl; exact lives_fnd hp hn
  have hg : ∀ k, getM (M ++ [(n, blk, (⟨true, id, p, (getM M p).s1, (getM M p).s2, (getM M p).s3⟩ : Mb))]) k = if k = n then ⟨true, id, p, (getM M p).s1, (getM M p).s2, (getM M p).s3⟩ else getM M k := fun k => get_app hn _ _ k
  have hf := fnd_app hn blk (⟨true, id, p, (getM M p).s1, (getM M p).s2, (getM M p).s3⟩ : Mb)
  generalize hM' : M ++ [(n, blk, (⟨true, id, p, (getM M p).s1, (getM M p).s2, (getM M p).s3⟩ : Mb))] = M' at *
  have hl : ∀ k, livesM M' k = if k = n then true else livesM M k := fun k => by
    rw [lives_get, hg]
    split
    · rfl
    · rw [lives_get]
  have hi : ∀ k, idM M' k = if k = n then id else idM M k := fun k => by
    rw [id_get, hg]
    split
    · rfl
    · rw [id_get]
  have hln : livesM M n = false := by
    cases hc : livesM M n with
    | false => rfl
    | true => exact absurd hn (lives_fnd hc)
  have old : ∀ a, fndM M a ≠ none → a ≠ n := fun a ha e => ha (by rw [e]; exact hn)
  have olds : ∀ k, livesM M k = true → ∀ a ∈ (getM M k).su, livesM M' a = livesM M a := fun k hk a ha => by rw [hl, if_neg (old a (h.used k hk a ha))]
  have chain_old : ∀ (l : List Int) (x : Int), (∀ a ∈ l, a ≠ n) → chainM M x l → chainM M' x l := by
    intro l
    induction l with
    | nil => exact fun _ _ _ => trivial
    | cons a l ih =>
      intro x ha hc
      have han := ha a List.mem_cons_self
      have ha' : ∀ b ∈ l, b ≠ n := fun b hb => ha b (List.mem_cons_of_mem _ hb)
      refine ⟨fun k => ?_, fun k => ?_⟩
      · rw [hl, if_neg han] at k
        rw [hi, if_neg han]
        exact ⟨(hc.1 k).1, ih _ ha' (hc.1 k).2⟩
      · rw [hl, if_neg han] at k
        exact ih _ ha' (hc.2 k)
  have hpsu : ∀ a ∈ (getM M p).su, a ≠ n := fun a ha => old a (h.used p hp a ha)
  have hph := h.head p hp
  have hpc := h.chain p hp
  have hok := chain_hd hpc hph h.neg
  have hwp := okP_within (h.rg p hp) hid (h.rg _ hph) hok (by rw [id_get]; exact hw)
  -- the new one's list
  have hnc : chainM M id (getM M p).su := by
    generalize getM M p = m at *
    have hcm : chainM M (idM M p) [m.s1, m.s2, m.s3] := hpc
    obtain ⟨c1, c2⟩ := hcm
    have hh : hdM M m = if livesM M m.s1 = true then m.s1 else if livesM M m.s2 = true then m.s2 else if livesM M m.s3 = true then m.s3 else -1 := rfl
    by_cases h1 : livesM M m.s1 = true
    · rw [if_pos h1] at hh
      rw [hh] at hwp
      exact ⟨fun _ => ⟨hwp.2, (c1 h1).2⟩, fun k => by rw [h1] at k; cases k⟩
    · rw [if_neg h1] at hh
      obtain ⟨c3, c4⟩ := c2 (bnot h1)
      refine ⟨fun k => absurd k h1, fun _ => ?_⟩
      by_cases h2 : livesM M m.s2 = true
      · rw [if_pos h2] at hh
        rw [hh] at hwp
        exact ⟨fun _ => ⟨hwp.2, (c3 h2).2⟩, fun k => by rw [h2] at k; cases k⟩
      · rw [if_neg h2] at hh
        obtain ⟨c5, c6⟩ := c4 (bnot h2)
        refine ⟨fun k => absurd k h2, fun _ => ?_⟩
        by_cases h3 : livesM M m.s3 = true
        · rw [if_pos h3] at hh
          rw [hh] at hwp
          exact ⟨fun _ => ⟨hwp.2, trivial⟩, fun k => by rw [h3] at k; cases k⟩
        · rw [if_neg h3] at hh
          rw [hh, h.neg] at hph
          cases hph
  refine ⟨⟨fun c k0 k4 => ?_, fun k hk => ?_, fun k hk => ?_, fun k j hk hj e => ?_, fun k hk => ?_, fun k hk a ha => ?_, fun k hk => ?_⟩, hl, ?_, fun k hk => by rw [hf, if_neg hk], by rw [← hM']; simp⟩
  · obtain ⟨b1, b2⟩ := h.base c k0 k4
    have hcn : c ≠ n := old c (lives_fnd b1)
    rw [hl, hi, if_neg hcn, if_neg hcn]
    exact ⟨b1, b2⟩
  · rw [hi]
    split
    · exact hid
    · rename_i hkn; rw [hl, if_neg hkn] at hk; exact h.rg k hk
  · rw [hl] at hk
    split at hk
    · rename_i e; rw [e]; exact h0
    · exact h.nn k hk
  · rw [hl] at hk hj
    rw [hi, hi] at e
    by_cases hkn : k = n <;> by_cases hjn : j = n
    · rw [hkn, hjn]
    · rw [if_pos hkn, if_neg hjn] at e
      rw [if_neg hjn] at hj
      exact absurd e.symm (hun j hj)
    · rw [if_neg hkn, if_pos hjn] at e
      rw [if_neg hkn] at hk
      exact absurd e (hun k hk)
    · rw [if_neg hkn] at hk e
      rw [if_neg hjn] at hj e
      exact h.inj k j hk hj e
  · rw [hl] at hk
    rw [hg]
    split
    · have e1 : hdM M' ⟨true, id, p, (getM M p).s1, (getM M p).s2, (getM M p).s3⟩ = hdM M (getM M p) := by
        rw [hd_congr (M := M) (m := ⟨true, id, p, (getM M p).s1, (getM M p).s2, (getM M p).s3⟩) (olds p hp)]
        rfl
      rw [e1, hl]
      split
      · rfl
      · exact hph
    · rename_i hkn
      rw [if_neg hkn] at hk
      rw [hd_congr (olds k hk), hl]
      split
      · rfl
      · exact h.head k hk
  · rw [hf]
    split
    · simp
    · rw [hl] at hk
      rw [hg] at ha
      split at ha
      · exact h.used p hp a ha
      · rename_i hkn; rw [if_neg hkn] at hk; exact h.used k hk a ha
  · rw [hl] at hk
    rw [hi, hg]
    split
    · exact chain_old _ _ hpsu hnc
    · rename_i hkn
      rw [if_neg hkn] at hk
      exact chain_old _ _ (fun a ha => old a (h.used k hk a ha)) (h.chain k hk)
  · rw [hf, if_pos rfl]; simp
end Go.Proofs.Ytddhlmejaobcgaa.Bk

set_option maxRecDepth 100000
set_option linter.unusedVariables false
set_option linter.unusedSimpArgs false
set_option linter.ambiguousOpen false
/- What rounds bring. -/
namespace Go.Proofs.Ytddhlmejaobcgaa.Bk
open Go Go.Am Co Pi
theorem su3 {m m' : Mb} (h : m'.su = m.su) : m'.s1 = m.s1 ∧ m'.s2 = m.s2 ∧ m'.s3 = m.s3 := by
  have h : [m'.s1, m'.s2, m'.s3] = [m.s1, m.s2, m.s3] := h
  injection h with h1 h
  injection h with h2 h
  injection h with h3 _
  exact ⟨h1, h2, h3⟩
theorem fol_su (m : Mb) (s : Int) (o : Mb) : (folM m s o).su = [s, o.s1, o.s2] := rfl
/-- What a look leaves in the lists. -/
theorem stab_su {M : List Ent} (h : Inv M) {n : Int} (hn : livesM M n = true) : ∃ t, livesM M t = true ∧ okP (idM M n) (idM M t) ∧ (getM (stabM M n) n).su = [t, (getM M t).s1, (getM M t).s2] ∧ ∀ k, k ≠ n → (getM (stabM M n) k).su = (getM M k).su := by
  have hs := h.head n hn
  have hok := chain_hd (h.chain n hn) hs h.neg
  obtain ⟨i1, l1, d1⟩ := h.fol hn hs hok (m := getM M n) (by rw [← lives_get]; exact hn) (by rw [id_get])
  have e1 : stab1 M n = setM M n (folM (getM M n) (hdM M (getM M n)) (getM M (hdM M (getM M n)))) := rfl
  rw [← e1] at i1 l1 d1
  have g1 : ∀ k, getM (stab1 M n) k = if k = n then folM (getM M n) (hdM M (getM M n)) (getM M (hdM M (getM M n))) else getM M k := fun k => get_set hn _ k
  have hn1 : livesM (stab1 M n) n = true := by rw [l1]; exact hn
  have key : (∃ t, livesM M t = true ∧ okP (idM M n) (idM M t) ∧ (getM (stab2 M n) n).su = [t, (getM M t).s1, (getM M t).s2] ∧ ∀ k, k ≠ n → (getM (stab2 M n) k).su = (getM M k).su) ∧ livesM (stab2 M n) (stabS M n) = true := by
    unfold stab2 stabS
    split
    · rename_i hnb
      obtain ⟨hq, hw⟩ := near_true hnb
      have hs1 : livesM (stab1 M n) (hdM M (getM M n)) = true := by rw [l1]; exact hs
      have hok1 : okP (idM (stab1 M n) n) (idM (stab1 M n) (hdM M (getM M n))) := by rw [d1, d1]; exact hok
      have hid : (getM M n).id = idM (stab1 M n) n := by rw [d1, id_get]
      rw [hid] at hw
      have hq2 := (okP_within (i1.rg n hn1) (i1.rg _ hq) (i1.rg _ hs1) hok1 hw).1
      generalize (getM (stab1 M n) (hdM M (getM M n))).pr = q at *
      have hqn : q ≠ n := by rintro rfl; exact okP_self _ hq2
      refine ⟨⟨q, by rw [← l1]; exact hq, by rw [d1, d1] at hq2; exact hq2, ?_, fun k hk => ?_⟩, ?_⟩
      · rw [get_set hn1, if_pos rfl, fol_su, g1, if_neg hqn]
      · rw [get_set hn1, if_neg hk, g1, if_neg hk]
      · rw [lives_get, get_set hn1, if_neg hqn, ← lives_get]; exact hq
    · refine ⟨⟨_, hs, hok, ?_, fun k hk => ?_⟩, by rw [l1]; exact hs⟩
      · rw [g1, if_pos rfl, fol_su]
      · rw [g1, if_neg hk]
  obtain ⟨⟨t, k1, k2, k3, k4⟩, k5⟩ := key
  have gs : ∀ k, (getM (stabM M n) k).su = (getM (stab2 M n) k).su := fun k => by
    show (getM (setM _ _ _) k).su = _
    rw [get_set k5]
    split
    · rename_i e; rw [(rec_keep _ _ _).2.2, e]
    · rfl
  exact ⟨t, k1, k2, by rw [gs]; exact k3, fun k hk => by rw [gs]; exact k4 k hk⟩
def P1 (M : List Ent) (n : Int) : Prop := livesM M (getM M n).s1 = true
def P2 (M : List Ent) (n : Int) : Prop := livesM M (getM M n).s1 = true ∧ livesM M (getM M n).s2 = true
theorem fold_P1 : ∀ (l : List Int) (M : List Ent), Inv M → (∀ n ∈ l, livesM M n = true) → ∀ n, (n ∈ l ∨ P1 M n) → P1 (l.foldl stabM M) n
  | [], M, h, _, n, hn => hn.elim (fun k => by cases k) id
  | a :: l, M, h, hl, n, hn => by
    have ha := hl a List.mem_cons_self
    obtain ⟨i1, l1, d1⟩ := h.stab ha
    obtain ⟨t, t1, t2, t3, t4⟩ := stab_su h ha
    refine fold_P1 l (stabM M a) i1 (fun k hk => by rw [l1]; exact hl k (List.mem_cons_of_mem _ hk)) n ?_
    by_cases e : n = a
    · right
      subst e
      unfold P1
      rw [l1, (show (getM (stabM M n) n).s1 = t from (List.cons.inj t3).1)]
      exact t1
    · rcases hn with hn | hn
      · rcases List.mem_cons.1 hn with k | k
        · exact absurd k e
        · exact .inl k
      · right
        unfold P1 at *
        rw [l1, (su3 (t4 n e)).1]
        exact hn
theorem fold_P2 : ∀ (l : List Int) (M : List Ent), Inv M → (∀ n ∈ l, livesM M n = true) → (∀ n, livesM M n = true → P1 M n) → ∀ n, (n ∈ l ∨ P2 M n) → P2 (l.foldl stabM M) n
  | [], M, h, _, _, n, hn => hn.elim (fun k => by cases k) id
  | a :: l, M, h, hl, hp, n, hn => by
    have ha := hl a List.mem_cons_self
    obtain ⟨i1, l1, d1⟩ := h.stab ha
    obtain ⟨t, t1, t2, t3, t4⟩ := stab_su h ha
    have e1 : (getM (stabM M a) a).s1 = t := (List.cons.inj t3).1
    have e2 : (getM (stabM M a) a).s2 = (getM M t).s1 := (List.cons.inj (List.cons.inj t3).2).1
    refine fold_P2 l (stabM M a) i1 (fun k hk => by rw [l1]; exact hl k (List.mem_cons_of_mem _ hk)) (fun k hk => ?_) n ?_
    · rw [l1] at hk
      by_cases e : k = a
      · subst e
        unfold P1
        rw [l1, e1]; exact t1
      · have := hp k hk
        unfold P1 at *
        rw [l1, (su3 (t4 k e)).1]; exact this
    by_cases e : n = a
    · right
      subst e
      refine ⟨by rw [l1, e1]; exact t1, by rw [l1, e2]; exact hp t t1⟩
    · rcases hn with hn | hn
      · rcases List.mem_cons.1 hn with k | k
        · exact absurd k e
        · exact .inl k
      · right
        exact ⟨by rw [l1, (su3 (t4 n e)).1]; exact hn.1, by rw [l1, (su3 (t4 n e)).2.1]; exact hn.2⟩
/-- With two that live behind each one, one may go. -/
theorem may_go {M : List Ent} (h : Inv M) (hp : ∀ n, livesM M n = true → P2 M n) {n : Int} (hn : livesM M n = true) : mayM M n := by
  intro k hk
  have hk' := lives_kill hn k hk
  obtain ⟨p1, p2⟩ := hp k hk'
  have hc := h.chain k hk'
  have hc : chainM M (idM M k) [(getM M k).s1, (getM M k).s2, (getM M k).s3] := hc
  have hne : (getM M k).s1 ≠ (getM M k).s2 := fun e => by
    have := (((hc.1 p1).2).1 p2).1
    rw [e] at this
    exact okP_self _ this
  obtain ⟨q1, q2, q3⟩ := su3 (kill_su hn k)
  have hneg : livesM (killM M n) (-1) = false := by
    rw [kill_lives hn]
    split
    · rfl
    · exact h.neg
  have hl : livesM (killM M n) (hdM (killM M n) (getM (killM M n) k)) = true := by
    unfold hdM
    rw [q1, q2, q3]
    by_cases e : (getM M k).s1 = n
    · have e2 : (getM M k).s2 ≠ n := fun k2 => hne (by rw [e, k2])
      have a1 : livesM (killM M n) (getM M k).s1 = false := by rw [kill_lives hn, if_pos e]
      have a2 : livesM (killM M n) (getM M k).s2 = true := by rw [kill_lives hn, if_neg e2]; exact p2
      rw [if_neg (by rw [a1]; simp), if_pos a2]
      exact a2
    · have a1 : livesM (killM M n) (getM M k).s1 = true := by rw [kill_lives hn, if_neg e]; exact p1
      rw [if_pos a1]
      exact a1
  intro e
  rw [e, hneg] at hl
  cases hl
/-! ### base members alone -/
def OnlyB (M : List Ent) : Prop := ∀ k, livesM M k = true ↔ 0 ≤ k ∧ k < 4
def nxt (b : Int) : Int := (b + 1) % 4
theorem base_okP {b t : Int} (hb : 0 ≤ b ∧ b < 4) (ht : 0 ≤ t ∧ t < 4) (h : okP (10 * (b + 1)) (10 * (t + 1))) : t = nxt b := by
  obtain ⟨h1, h2⟩ := h
  have a1 := h2 10 (.inl rfl)
  have a2 := h2 20 (.inr (.inl rfl))
  have a3 := h2 30 (.inr (.inr (.inl rfl)))
  have a4 := h2 40 (.inr (.inr (.inr rfl)))
  have hb4 : b = 0 ∨ b = 1 ∨ b = 2 ∨ b = 3 := by omega
  have ht4 : t = 0 ∨ t = 1 ∨ t = 2 ∨ t = 3 := by omega
  unfold nxt
  simp only [dist_mod] at *
  rcases hb4 with rfl | rfl | rfl | rfl <;> rcases ht4 with rfl | rfl | rfl | rfl <;> first | rfl | (exfalso; revert h1 a1 a2 a3 a4; decide)
theorem base_rec {b p : Int} (hb : 0 ≤ b ∧ b < 4) (hp : 0 ≤ p ∧ p < 4) (hne : p ≠ b) : withinB (10 * (b + 1)) (10 * (p + 1)) (10 * (nxt b + 1)) = true := by
  have hb4 : b = 0 ∨ b = 1 ∨ b = 2 ∨ b = 3 := by omega
  have hp4 : p = 0 ∨ p = 1 ∨ p = 2 ∨ p = 3 := by omega
  rcases hb4 with rfl | rfl | rfl | rfl <;> rcases hp4 with rfl | rfl | rfl | rfl <;> first | (exact absurd rfl hne) | (decide +kernel)
theorem nxt_rg {b : Int} (hb : 0 ≤ b ∧ b < 4) : 0 ≤ nxt b ∧ nxt b < 4 := by unfold nxt; omega
theorem stab_base {M : List Ent} (h : Inv M) (ho : OnlyB M) {b : Int} (hb : 0 ≤ b ∧ b < 4) :
    (getM (stabM M b) b).su = [nxt b, (getM M (nxt b)).s1, (getM M (nxt b)).s2] ∧ (∀ k, k ≠ b → (getM (stabM M b) k).su = (getM M k).su) ∧ (getM (stabM M b) (nxt b)).pr = b ∧ ∀ k, k ≠ nxt b → (getM (stabM M b) k).pr = (getM M k).pr := by
  have hn : livesM M b = true := (ho b).2 hb
  have hbid := (h.base b hb.1 hb.2).2
  obtain ⟨t, t1, t2, t3, t4⟩ := stab_su h hn
  have is_nxt : ∀ q, livesM M q = true → okP (idM M b) (idM M q) → q = nxt b := fun q hq hk => by
    have hq4 := (ho q).1 hq
    rw [hbid, (h.base q hq4.1 hq4.2).2] at hk
    exact base_okP hb hq4 hk
  obtain rfl := is_nxt t t1 t2
  have hnr := nxt_rg hb
  have hnb : nxt b ≠ b := by unfold nxt; omega
  have hs := h.head b hn
  have hok := chain_hd (h.chain b hn) hs h.neg
  have hse := is_nxt _ hs hok
  refine ⟨t3, t4, ?_⟩
  obtain ⟨i1, l1, d1⟩ := h.fol hn hs hok (m := getM M b) (by rw [← lives_get]; exact hn) (by rw [id_get])
  have e1 : stab1 M b = setM M b (folM (getM M b) (hdM M (getM M b)) (getM M (hdM M (getM M b)))) := rfl
  rw [← e1] at i1 l1 d1
  have g1 : ∀ k, getM (stab1 M b) k = if k = b then folM (getM M b) (hdM M (getM M b)) (getM M (hdM M (getM M b))) else getM M k := fun k => get_set hn _ k
  have hn1 : livesM (stab1 M b) b = true := by rw [l1]; exact hn
  have hnear : nearB (stab1 M b) (getM (stab1 M b) (hdM M (getM M b))).pr (getM M b).id (hdM M (getM M b)) = false := by
    cases hc : nearB (stab1 M b) (getM (stab1 M b) (hdM M (getM M b))).pr (getM M b).id (hdM M (getM M b)) with
    | false => rfl
    | true =>
      obtain ⟨hq, hw⟩ := near_true hc
      have hs1 : livesM (stab1 M b) (hdM M (getM M b)) = true := by rw [l1]; exact hs
      have hok1 : okP (idM (stab1 M b) b) (idM (stab1 M b) (hdM M (getM M b))) := by rw [d1, d1]; exact hok
      have hid : (getM M b).id = idM (stab1 M b) b := by rw [d1, id_get]
      rw [hid] at hw
      have hq2 := (okP_within (i1.rg b hn1) (i1.rg _ hq) (i1.rg _ hs1) hok1 hw).2
      have hq1 := (okP_within (i1.rg b hn1) (i1.rg _ hq) (i1.rg _ hs1) hok1 hw).1
      rw [d1, d1] at hq1 hq2
      rw [is_nxt _ (by rw [← l1]; exact hq) hq1, hse] at hq2
      exact absurd hq2 (okP_self _)
  have e2 : stab2 M b = stab1 M b := by unfold stab2; rw [hnear]; rfl
  have e3 : stabS M b = hdM M (getM M b) := by unfold stabS; rw [hnear]; rfl
  have e4 : stabM M b = setM (stab1 M b) (nxt b) (recM (stab1 M b) (getM (stab1 M b) (nxt b)) b) := by unfold stabM; rw [e2, e3, hse]
  have hnl : livesM (stab1 M b) (nxt b) = true := by rw [l1]; exact (ho _).2 hnr
  rw [e4]
  refine ⟨?_, fun k hk => ?_⟩
  · rw [get_set hnl, if_pos rfl]
    generalize hm : getM (stab1 M b) (nxt b) = m
    have hmid : m.id = 10 * (nxt b + 1) := by rw [← hm, ← id_get, d1]; exact (h.base _ hnr.1 hnr.2).2
    unfold recM
    by_cases hr : recB (stab1 M b) m b = true
    · rw [if_pos hr]
    · rw [if_neg hr]
      apply Classical.byContradiction
      intro hne
      apply hr
      unfold recB
      by_cases h1 : (m.pr == -1) = true
      · rw [if_pos h1]
      · rw [if_neg h1]
        by_cases h2 : (!(livesM (stab1 M b) m.pr)) = true
        · rw [if_pos h2]
        · rw [if_neg h2]
          have h3 : livesM M m.pr = true := by
            rw [l1] at h2
            cases hc : livesM M m.pr with
            | true => rfl
            | false => rw [hc] at h2; exact absurd rfl h2
          have h4 := (ho _).1 h3
          rw [d1, d1, hbid, (h.base _ h4.1 h4.2).2, hmid]
          exact base_rec hb h4 hne
  · rw [get_set hnl, if_neg hk, g1]
    split
    · rename_i e; rw [e]; rfl
    · rfl
theorem only_stab {M : List Ent} (h : Inv M) (ho : OnlyB M) {b : Int} (hb : 0 ≤ b ∧ b < 4) : OnlyB (stabM M b) := fun k => by rw [(h.stab ((ho b).2 hb)).2.1]; exact ho k
def F1 (M : List Ent) (b : Int) : Prop := (getM M b).s1 = nxt b
def Fp (M : List Ent) (b : Int) : Prop := (getM M (nxt b)).pr = b
def F2 (M : List Ent) (b : Int) : Prop := (getM M b).s2 = nxt (nxt b)
def F3 (M : List Ent) (b : Int) : Prop := (getM M b).s3 = nxt (nxt (nxt b))
theorem nxt_inj {a b : Int} (ha : 0 ≤ a ∧ a < 4) (hb : 0 ≤ b ∧ b < 4) (h : nxt a = nxt b) : a = b := by unfold nxt at h; omega
theorem list3 {a b c d e f : Int} (h : [a, b, c] = [d, e, f]) : a = d ∧ b = e ∧ c = f := by
  injection h with h1 h
  injection h with h2 h
  injection h with h3 _
  exact ⟨h1, h2, h3⟩
theorem fold_base : ∀ (l : List Int) (M : List Ent), Inv M → OnlyB M → (∀ n ∈ l, 0 ≤ n ∧ n < 4) →
    OnlyB (l.foldl stabM M) ∧ Inv (l.foldl stabM M) ∧ ∀ b, 0 ≤ b ∧ b < 4 → ((b ∈ l ∨ F1 M b) → F1 (l.foldl stabM M) b) ∧ ((b ∈ l ∨ Fp M b) → Fp (l.foldl stabM M) b) ∧
      ((∀ k, 0 ≤ k ∧ k < 4 → F1 M k) → (b ∈ l ∨ F2 M b) → F2 (l.foldl stabM M) b) ∧
      ((∀ k, 0 ≤ k ∧ k < 4 → F1 M k) → (∀ k, 0 ≤ k ∧ k < 4 → F2 M k) → (b ∈ l ∨ F3 M b) → F3 (l.foldl stabM M) b)
  | [], M, h, ho, _ => ⟨ho, h, fun b hb => ⟨fun k => k.elim (fun k => by cases k) id, fun k => k.elim (fun k => by cases k) id, fun _ k => k.elim (fun k => by cases k) id, fun _ _ k => k.elim (fun k => by cases k) id⟩⟩
  | a :: l, M, h, ho, hl => by
    have ha := hl a List.mem_cons_self
    obtain ⟨s1, s2, s3, s4⟩ := stab_base h ho ha
    have i1 := (h.stab ((ho a).2 ha)).1
    have o1 := only_stab h ho ha
    obtain ⟨r1, r2, r3⟩ := fold_base l (stabM M a) i1 o1 fun n hn => hl n (List.mem_cons_of_mem _ hn)
    obtain ⟨e1, e2, e3⟩ := list3 (show [(getM (stabM M a) a).s1, (getM (stabM M a) a).s2, (getM (stabM M a) a).s3] = [nxt a, (getM M (nxt a)).s1, (getM M (nxt a)).s2] from s1)
    have f1 : ∀ b, (b = a ∨ F1 M b) → F1 (stabM M a) b := fun b hb => by
      unfold F1 at *
      by_cases e : b = a
      · rw [e]; exact e1
      · rw [(su3 (s2 b e)).1]; exact hb.resolve_left e
    have fp : ∀ b, 0 ≤ b ∧ b < 4 → (b = a ∨ Fp M b) → Fp (stabM M a) b := fun b hb4 hb => by
      unfold Fp at *
      by_cases e : b = a
      · rw [e]; exact s3
      · rw [s4 _ fun k => e (nxt_inj hb4 ha k)]; exact hb.resolve_left e
    have f2 : (∀ k, 0 ≤ k ∧ k < 4 → F1 M k) → ∀ b, (b = a ∨ F2 M b) → F2 (stabM M a) b := fun hf b hb => by
      by_cases e : b = a
      · unfold F2; rw [e, e2]; exact hf _ (nxt_rg ha)
      · unfold F2 at *; rw [(su3 (s2 b e)).2.1]; exact hb.resolve_left e
    have f3 : (∀ k, 0 ≤ k ∧ k < 4 → F2 M k) → ∀ b, (b = a ∨ F3 M b) → F3 (stabM M a) b := fun hf b hb => by
      by_cases e : b = a
      · unfold F3; rw [e, e3]; exact hf _ (nxt_rg ha)
      · unfold F3 at *; rw [(su3 (s2 b e)).2.2]; exact hb.resolve_left e
    refine ⟨r1, r2, fun b hb => ?_⟩
    obtain ⟨q1, q2, q3, q4⟩ := r3 b hb
    have go : ∀ {A B : Prop}, (b ∈ a :: l ∨ A) → ((b = a ∨ A) → B) → b ∈ l ∨ B := fun {A B} hm k => by
      rcases hm with hm | hm
      · rcases List.mem_cons.1 hm with e | e
        · exact .inr (k (.inl e))
        · exact .inl e
      · exact .inr (k (.inr hm))
    refine ⟨fun hm => q1 (go hm (f1 b)), fun hm => q2 (go hm (fp b hb)), fun hf hm => q3 (fun k hk => f1 k (.inr (hf k hk))) (go hm (f2 hf b)), fun hf hf2 hm => q4 (fun k hk => f1 k (.inr (hf k hk))) (fun k hk => f2 hf k (.inr (hf2 k hk))) (go hm (f3 hf2 b))⟩
end Go.Proofs.Ytddhlmejaobcgaa.Bk
