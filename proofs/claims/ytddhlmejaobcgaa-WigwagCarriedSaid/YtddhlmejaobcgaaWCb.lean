import Derived.Test.YtddhlmejaobcgaaWCa
set_option maxRecDepth 100000
set_option linter.unusedVariables false
set_option linter.unusedSimpArgs false
/- All comes at last. -/
namespace Go.Proofs.Ytddhlmejaobcgaa.Lk
open Go Go.Am Co
theorem pk_inj {n n' : Int} {c c' : Nat} {s s' : ByteArray} (h : pk n c s = pk n' c' s') (h1 : -1 ≤ n ∧ n ≤ 1000000) (h2 : -1 ≤ n' ∧ n' ≤ 1000000) (h3 : c ≤ 1000000) (h4 : c' ≤ 1000000) (h5 : s.size ≤ 1970) (h6 : s'.size ≤ 1970) : n = n' ∧ c = c' ∧ s = s' := by
  have e1 := rd_pk (n := n) (c := c) (s := s) ⟨by omega, by omega⟩ ⟨by omega, by omega⟩ (by omega)
  have e2 := rd_pk (n := n') (c := c') (s := s') ⟨by omega, by omega⟩ ⟨by omega, by omega⟩ (by omega)
  rw [h, e2] at e1
  simp only [Prod.mk.injEq] at e1
  exact ⟨e1.1.symm, by omega, e1.2.2.1.symm⟩
theorem Half.know {S R : Lk} {P M C P' M' C' : List ByteArray} (h : Half S R P M C) (h' : Half R S P' M' C') {n : Int} {c : Nat} {s : ByteArray} (hp : pk n c s ∈ M) (h1 : -1 ≤ n ∧ n ≤ 1000000) (h3 : c ≤ 1000000) (h5 : s.size ≤ 1970) : c ≤ S.c ∧ ((n = -1 ∧ s = mt) ∨ 0 ≤ n) := by
  obtain ⟨n', c', s', e, hc, hs, hn1, hn2, hk⟩ := h.made _ hp
  have hsc := h'.c
  have hl' := h'.len
  obtain ⟨rfl, rfl, rfl⟩ := pk_inj e h1 ⟨hn1, hn2⟩ h3 (by omega) h5 hs
  exact ⟨hc, by rcases hk with hk | ⟨k, rfl, _⟩; exact .inl hk; exact .inr (by omega)⟩
/-- Texts sent in one go come. -/
theorem way {M N : List ByteArray} {f : Int} (c : Nat) (hc : c ≤ 1000) : ∀ (l : List ByteArray) (a : Nat) (n : Int) {s : Ds}, Inv s M N → (∀ x ∈ pks c a l, x ∈ M) → (∀ x ∈ l, x.size ≤ 1970) → a + l.length ≤ 1000 → a ≤ s.b.c →
    a + l.length ≤ ((lbl f 1 n (pks c a l)).foldl arr s).b.c ∧ (l ≠ [] → ((lbl f 1 n (pks c a l)).foldl arr s).b.o = true)
  | [], a, n, s, _, _, _, _, ha => ⟨ha, fun h => absurd rfl h⟩
  | x :: r, a, n, s, h, hm, hz, hl, ha => by
    have hx : pk (a : Int) (c : Int) x ∈ M := hm _ (List.mem_cons_self ..)
    have hxz := hz x (List.mem_cons_self ..)
    simp only [List.length_cons] at hl
    have hg : gd M N ⟨n + 1, f, 1, pk (a : Int) (c : Int) x⟩ := .inl ⟨rfl, hx⟩
    obtain ⟨i1, l1⟩ := arr_ok h hg
    obtain ⟨k1, k2⟩ := h.f.know h.g hx ⟨by omega, by omega⟩ (by omega) hxz
    obtain ⟨-, -, -, -, t5, -⟩ := took h.f h.g hx k1 hxz (by omega) (by omega) k2
    obtain ⟨t6, t7⟩ := t5 (by omega)
    have t8 := t7 (by omega)
    have e : (arr s ⟨n + 1, f, 1, pk (a : Int) (c : Int) x⟩).b = (takeL s.b (pk (a : Int) (c : Int) x)).2 := by
      unfold arr; rw [if_neg (by show ¬ ((1 : Int) = 0); decide)]
    obtain ⟨g1, g2⟩ := way (f := f) c hc r (a + 1) (n + 1) i1 (fun y hy => hm y (List.mem_cons_of_mem _ hy)) (fun y hy => hz y (List.mem_cons_of_mem _ hy)) (by omega) (by rw [e]; omega)
    refine ⟨by simp only [List.length_cons]; show _ ≤ ((lbl f 1 (n + 1) (pks c (a + 1) r)).foldl arr (arr s _)).b.c; omega, fun _ => ?_⟩
    have hrest : ∀ p ∈ lbl f 1 (n + 1) (pks c (a + 1) r), gd M N p := fun p hp => by
      obtain ⟨-, q1, q2⟩ := lbl_mem hp
      exact .inl ⟨q1, hm _ (List.mem_cons_of_mem _ q2)⟩
    exact (arrs_ok _ i1 hrest).2.b.o (by rw [e]; exact t6)
/-- What an end says is heard. -/
theorem heard {M N : List ByteArray} {L : List Pk} {s : Ds} (h : Inv s M N) (hL : ∀ p ∈ L, gd M N p) {p : Pk} (hp : p ∈ L) (ht : p.to = 0) {n : Int} {c : Nat} {x : ByteArray} (hx : p.tx = pk n c x) (h1 : -1 ≤ n ∧ n ≤ 1000000) (h3 : c ≤ 1000000) (h5 : x.size ≤ 1970) :
    c ≤ (L.foldl arr s).a.a := by
  obtain ⟨L1, L2, rfl⟩ := List.append_of_mem hp
  rw [List.foldl_append, List.foldl_cons]
  obtain ⟨i1, l1⟩ := arrs_ok L1 h fun q hq => hL q (List.mem_append_left _ hq)
  have hpg := hL p hp
  obtain ⟨i2, l2⟩ := arr_ok i1 hpg
  obtain ⟨i3, l3⟩ := arrs_ok L2 i2 fun q hq => hL q (List.mem_append_right _ (List.mem_cons_of_mem _ hq))
  refine Nat.le_trans ?_ l3.a.a
  have hN : pk n c x ∈ N := by
    rcases hpg with ⟨h, _⟩ | ⟨_, h⟩
    · omega
    · rwa [hx] at h
  obtain ⟨k1, k2⟩ := i1.g.know i1.f hN h1 h3 h5
  obtain ⟨-, t2, -⟩ := took i1.g i1.f hN k1 h5 (by omega) (by omega) k2
  have e : (arr (L1.foldl arr s) p).a = (takeL (L1.foldl arr s).a (pk n c x)).2 := by
    unfold arr; rw [if_pos ht, hx]
  rw [e, ← t2]
  exact ack_ge i1.f k1
def swp (p : Pk) : Pk := { p with to := if p.to = 0 then 1 else 0 }
theorem arr_sw (s : Ds) (p : Pk) : arr s.sw (swp p) = (arr s p).sw := by
  by_cases h : p.to = 0
  · have h2 : (swp p).to = 1 := if_pos h
    unfold arr
    rw [if_neg (by omega), if_pos h]
    rfl
  · have h2 : (swp p).to = 0 := if_neg h
    unfold arr
    rw [if_pos h2, if_neg h]
    rfl
theorem arrs_sw : ∀ (l : List Pk) (s : Ds), (l.map swp).foldl arr s.sw = (l.foldl arr s).sw
  | [], _ => rfl
  | p :: r, s => by
    rw [List.map_cons, List.foldl_cons, List.foldl_cons, arr_sw, arrs_sw r]
theorem gd.sw {M N : List ByteArray} {p : Pk} (h : gd M N p) : gd N M (swp p) := by
  rcases h with ⟨h1, h2⟩ | ⟨h1, h2⟩
  · exact .inr ⟨if_neg (by omega), h2⟩
  · exact .inl ⟨if_pos h1, h2⟩
theorem lbl_sw (f : Int) : ∀ (l : List ByteArray) (n : Int), (lbl f 0 n l).map swp = lbl f 1 n l
  | [], _ => rfl
  | x :: r, n => by
    show swp ⟨n + 1, f, 0, x⟩ :: (lbl f 0 (n + 1) r).map swp = _
    rw [lbl_sw]; rfl
/-- Acknowledged: A texts or all; at odd rounds, 8 more came and that is owed. -/
def G (A : Nat) (m : Nat) (x y : Lk) (P : List ByteArray) : Prop := min A P.length ≤ x.a ∧ (m = 1 → P.length ≤ x.a ∨ (min (A + 8) P.length ≤ y.c ∧ y.o = true))
structure Rd (s : Ds) (M N : List ByteArray) (L : List Pk) : Prop where
  inv : Inv s M N
  gd : ∀ p ∈ L, gd (M ++ packets s.a) (N ++ packets s.b) p
  way : ∃ L1 f n L2, L = L1 ++ lbl f 1 n (packets s.a) ++ L2
  back : ∀ x ∈ packets s.b, ∃ p ∈ L, p.to = 0 ∧ p.tx = x
theorem step0 {s : Ds} {M N : List ByteArray} {L : List Pk} (h : Rd s M N L) {A : Nat} (g : G A 0 s.a s.b s.p) : G A 1 (L.foldl arr (snt s)).a (L.foldl arr (snt s)).b (L.foldl arr (snt s)).p := by
  obtain ⟨hi, hg, ⟨L1, f, n, L2, rfl⟩, -⟩ := h
  have h0 := snt_ok hi
  obtain ⟨i3, l3⟩ := arrs_ok _ h0 hg
  have lp : (List.foldl arr (snt s) (L1 ++ lbl f 1 n (packets s.a) ++ L2)).p = s.p := l3.p
  refine ⟨?_, fun _ => ?_⟩
  · rw [lp]
    exact Nat.le_trans g.1 l3.a.a
  · rw [lp]
    have hq : s.a.q.length = s.p.length - s.a.a := by rw [hi.f.q, List.length_drop]
    have hac := hi.f.a
    have hcp := hi.f.c
    have hlen := hi.f.len
    have hsc := hi.g.c
    have hlen' := hi.g.len
    by_cases hT : s.p.length ≤ s.a.a
    · exact .inl (Nat.le_trans hT l3.a.a)
    · right
      have hne : s.a.q ≠ [] := fun e => by rw [e] at hq; simp at hq; omega
      have hpk : packets s.a = pks s.a.c s.a.a (s.a.q.take 8) := packets_q hne
      rw [List.foldl_append, List.foldl_append]
      obtain ⟨i1, l1⟩ := arrs_ok L1 h0 fun q hq => hg q (List.mem_append_left _ (List.mem_append_left _ hq))
      have hw := way (f := f) s.a.c (by omega) (s.a.q.take 8) s.a.a n i1 (fun x hx => List.mem_append_right _ (by rw [hpk]; exact hx)) (fun x hx => by
        have := List.mem_of_mem_take hx
        rw [hi.f.q] at this
        exact hi.f.sz x (List.mem_of_mem_drop this)) (by rw [List.length_take]; omega) (Nat.le_trans hac l1.b.c)
      rw [← hpk] at hw
      obtain ⟨i2, l2⟩ := arrs_ok (lbl f 1 n (packets s.a)) i1 fun q hq => hg q (List.mem_append_left _ (List.mem_append_right _ hq))
      obtain ⟨i4, l4⟩ := arrs_ok L2 i2 fun q hq => hg q (List.mem_append_right _ hq)
      have hw1 := hw.1
      rw [List.length_take] at hw1
      refine ⟨?_, l4.b.o (hw.2 ?_)⟩
      · have := l4.b.c
        have := g.1
        omega
      · intro e
        have : (s.a.q.take 8).length = 0 := by rw [e]; rfl
        rw [List.length_take] at this
        omega
theorem step1 {s : Ds} {M N : List ByteArray} {L : List Pk} (h : Rd s M N L) {A : Nat} (g : G A 1 s.a s.b s.p) : G (A + 8) 0 (L.foldl arr (snt s)).a (L.foldl arr (snt s)).b (L.foldl arr (snt s)).p := by
  obtain ⟨hi, hg, -, hb⟩ := h
  have h0 := snt_ok hi
  obtain ⟨i3, l3⟩ := arrs_ok _ h0 hg
  have lp : (List.foldl arr (snt s) L).p = s.p := l3.p
  refine ⟨?_, fun h => by cases h⟩
  rw [lp]
  show min (A + 8) s.p.length ≤ _
  rcases g.2 rfl with g2 | ⟨g2, g3⟩
  · have : s.a.a ≤ _ := l3.a.a
    omega
  · have hcp := hi.f.c
    have hlen := hi.f.len
    have hlen' := hi.g.len
    have hac := hi.g.a
    have hgc := hi.g.c
    refine Nat.le_trans g2 ?_
    by_cases hne : s.b.q = []
    · have hpk : pk (-1) s.b.c mt ∈ packets s.b := by
        have e : packets s.b = [pk (-1) s.b.c mt] := by
          unfold Lk.packets
          rw [hne]
          simp only [g3, if_true]
        rw [e]
        exact List.mem_singleton.2 rfl
      obtain ⟨p, hp, ht, hx⟩ := hb _ hpk
      exact heard h0 hg hp ht hx ⟨by omega, by omega⟩ (by omega) (by decide)
    · have hpk : packets s.b = pks s.b.c s.b.a (s.b.q.take 8) := packets_q hne
      obtain ⟨y, r, hy⟩ := List.exists_cons_of_ne_nil hne
      have hmem : pk (s.b.a : Int) s.b.c y ∈ packets s.b := by
        rw [hpk, hy]
        exact List.mem_cons_self ..
      obtain ⟨p, hp, ht, hx⟩ := hb _ hmem
      refine heard h0 hg hp ht hx ⟨by omega, by omega⟩ (by omega) (hi.g.sz y ?_)
      have : y ∈ s.b.q := by rw [hy]; exact List.mem_cons_self ..
      rw [hi.g.q] at this
      exact List.mem_of_mem_drop this
end Go.Proofs.Ytddhlmejaobcgaa.Lk
