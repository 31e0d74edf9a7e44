import Derived.Test.YtddhlmejaobcgaaWCb
set_option maxRecDepth 100000
set_option linter.unusedVariables false
set_option linter.unusedSimpArgs false
/- Sixty rounds. -/
namespace Go.Proofs.Ytddhlmejaobcgaa.Lk
open Go Go.Am Co
theorem Inv.rd {s : Ds} {M N : List ByteArray} {l : List Pk} (h : Inv s M N) (hg : ∀ p ∈ l, gd M N p) (n : Int) : Rd s M N (l ++ sent n s) ∧ Rd s.sw N M ((l ++ sent n s).map swp) := by
  have hall : ∀ p ∈ l ++ sent n s, gd (M ++ packets s.a) (N ++ packets s.b) p := fun p hp => by
    rcases List.mem_append.1 hp with hp | hp
    · exact (hg p hp).left
    · exact gd_sent p hp
  refine ⟨⟨h, hall, ⟨l, 0, n, lbl 1 0 (n + (packets s.a).length) (packets s.b), by rw [List.append_assoc]; rfl⟩, fun x hx => ?_⟩, ⟨h.sw, fun p hp => ?_, ⟨(l ++ lbl 0 1 n (packets s.a)).map swp, 1, n + (packets s.a).length, [], ?_⟩, fun x hx => ?_⟩⟩
  · obtain ⟨p, h1, h2, h3⟩ := mem_lbl (f := 1) (t := 0) (n + (packets s.a).length) hx
    exact ⟨p, List.mem_append_right _ (List.mem_append_right _ h1), h2, h3⟩
  · obtain ⟨q, hq, rfl⟩ := List.mem_map.1 hp
    exact (hall q hq).sw
  · have e := lbl_sw 1 (packets s.b) (n + (packets s.a).length)
    show _ = _ ++ lbl 1 1 _ (packets s.b) ++ []
    rw [← e, List.append_nil, ← List.map_append, List.append_assoc]
    rfl
  · obtain ⟨p, h1, h2, h3⟩ := mem_lbl (f := 0) (t := 1) n (show x ∈ packets s.a from hx)
    exact ⟨swp p, List.mem_map.2 ⟨p, List.mem_append_right _ (List.mem_append_left _ h1), rfl⟩, if_neg (by omega), h3⟩
structure Fin (i : Nat) (s : Ds) (M N : List ByteArray) (l : List Pk) : Prop where
  inv : Inv s M N
  gd : ∀ p ∈ l, gd M N p
  one : 1 ≤ i → l = []
  ga : G (8 * (i / 2)) (i % 2) s.a s.b s.p
  gb : G (8 * (i / 2)) (i % 2) s.b s.a s.q
  idle : 21 ≤ i → s.a.q = [] ∧ s.b.q = [] ∧ s.a.o = false ∧ s.b.o = false
  lp : s.p.length ≤ 80
  lq : s.q.length ≤ 80
theorem Fin.start {s : Ds} {M N : List ByteArray} {l : List Pk} (h : Inv s M N) (hg : ∀ p ∈ l, Lk.gd M N p) (lp : s.p.length ≤ 80) (lq : s.q.length ≤ 80) : Fin 0 s M N l :=
  ⟨h, hg, fun h => absurd h (by decide), ⟨by simp, fun h => by cases h⟩, ⟨by simp, fun h => by cases h⟩, fun h => absurd h (by decide), lp, lq⟩
theorem arr_note {s : Ds} {p : Pk} {c : Nat} (ha : s.a.q = []) (hb : s.b.q = []) (hp : p.tx = pk (-1) c mt) (hc : c ≤ 1000000) : arr s p = s := by
  have k : ∀ R : Lk, R.q = [] → takeL R p.tx = ((mt, false, .lit .nilIface), R) := fun R hR => by
    rw [hp, take_pk ⟨by omega, by omega⟩ ⟨by omega, by omega⟩ (by decide), take_note R (by omega)]
    have : ack R (c : Int) = R := by
      unfold ack
      rw [hR, if_neg]
      show ¬ (_ ∧ _ ≤ ((0 : Nat) : Int))
      omega
    rw [this]
  unfold arr
  rw [k _ ha, k _ hb]
  split <;> rfl
theorem arr_notes {s : Ds} {c : Nat} (ha : s.a.q = []) (hb : s.b.q = []) : ∀ (l : List Pk), (∀ p ∈ l, ∃ c : Nat, p.tx = pk (-1) c mt ∧ c ≤ 1000000) → l.foldl arr s = s
  | [], _ => rfl
  | p :: r, h => by
    obtain ⟨c', h1, h2⟩ := h p (List.mem_cons_self ..)
    rw [List.foldl_cons, arr_note ha hb h1 h2]
    exact arr_notes (c := c) ha hb r fun q hq => h q (List.mem_cons_of_mem _ hq)
theorem notes {l : Lk} (h : l.q = []) {x : ByteArray} (hx : x ∈ packets l) : x = pk (-1) l.c mt := by
  unfold Lk.packets at hx
  rw [h] at hx
  dsimp only at hx
  split at hx
  · exact List.mem_singleton.1 hx
  · cases hx
theorem Fin.next {i : Nat} {s : Ds} {M N : List ByteArray} {l : List Pk} (h : Fin i s M N l) (n : Int) : Fin (i + 1) ((l ++ sent n s).foldl arr (snt s)) (M ++ packets s.a) (N ++ packets s.b) [] := by
  obtain ⟨r1, r2⟩ := h.inv.rd h.gd n
  obtain ⟨i3, l3⟩ := arrs_ok _ (snt_ok h.inv) r1.gd
  have esw := arrs_sw (l ++ sent n s) (snt s)
  have ga := h.ga
  have gb := h.gb
  have G2 : G (8 * ((i + 1) / 2)) ((i + 1) % 2) ((l ++ sent n s).foldl arr (snt s)).a ((l ++ sent n s).foldl arr (snt s)).b ((l ++ sent n s).foldl arr (snt s)).p ∧ G (8 * ((i + 1) / 2)) ((i + 1) % 2) ((l ++ sent n s).foldl arr (snt s)).b ((l ++ sent n s).foldl arr (snt s)).a ((l ++ sent n s).foldl arr (snt s)).q := by
    rcases (show i % 2 = 0 ∨ i % 2 = 1 by omega) with e | e
    · rw [e] at ga gb
      rw [show (i + 1) / 2 = i / 2 by omega, show (i + 1) % 2 = 1 by omega]
      have k1 := step0 r1 ga
      have k2 := step0 r2 (A := 8 * (i / 2)) gb
      rw [show snt s.sw = (snt s).sw from rfl, esw] at k2
      exact ⟨k1, k2⟩
    · rw [e] at ga gb
      rw [show 8 * ((i + 1) / 2) = 8 * (i / 2) + 8 by omega, show (i + 1) % 2 = 0 by omega]
      have k1 := step1 r1 ga
      have k2 := step1 r2 (A := 8 * (i / 2)) gb
      rw [show snt s.sw = (snt s).sw from rfl, esw] at k2
      exact ⟨k1, k2⟩
  refine ⟨i3, by simp, fun _ => rfl, G2.1, G2.2, fun h21 => ?_, by rw [l3.p]; exact h.lp, by rw [l3.q]; exact h.lq⟩
  have hqa : s.a.q = [] := by
    rw [h.inv.f.q]
    refine List.drop_of_length_le ?_
    have := ga.1
    have := h.lp
    omega
  have hqb : s.b.q = [] := by
    rw [h.inv.g.q]
    refine List.drop_of_length_le ?_
    have := gb.1
    have := h.lq
    omega
  have hl := h.one (by omega)
  subst hl
  have b1 := h.inv.f.c
  have b2 := h.inv.f.len
  have b3 := h.inv.g.c
  have b4 := h.inv.g.len
  have := arr_notes (s := snt s) (c := 0) hqa hqb ([] ++ sent n s) (fun p hp => by
    rcases List.mem_append.1 hp with hp | hp
    · cases hp
    rcases List.mem_append.1 hp with hp | hp
    · obtain ⟨-, -, hp⟩ := lbl_mem hp
      exact ⟨_, notes hqa hp, by omega⟩
    · obtain ⟨-, -, hp⟩ := lbl_mem hp
      exact ⟨_, notes hqb hp, by omega⟩)
  rw [this]
  exact ⟨hqa, hqb, rfl, rfl⟩
theorem Fin.done {s : Ds} {M N : List ByteArray} {l : List Pk} (h : Fin 60 s M N l) : s.d = s.p ∧ s.c = s.q ∧ s.a.q = [] ∧ s.b.q = [] ∧ s.a.o = false ∧ s.b.o = false := by
  have hi := h.idle (by decide)
  refine ⟨?_, ?_, hi⟩
  · rw [h.inv.f.came]
    refine List.take_of_length_le ?_
    have h1 := h.inv.f.a
    have h2 := h.ga.1
    have := h.lp
    simp only [Nat.reduceDiv, Nat.reduceMul] at h2
    omega
  · rw [h.inv.g.came]
    refine List.take_of_length_le ?_
    have h1 := h.inv.g.a
    have h2 := h.gb.1
    have := h.lq
    simp only [Nat.reduceDiv, Nat.reduceMul] at h2
    omega
end Go.Proofs.Ytddhlmejaobcgaa.Lk
