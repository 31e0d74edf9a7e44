import Derived.Test.YtddhlmejaobcgaaLX
import Derived.Test.YtddhlmejaobcgaaLKA
import Derived.Test.YtddhlmejaobcgaaLKB
import Derived.Test.YtddhlmejaobcgaaBC
set_option maxRecDepth 100000
set_option linter.unusedVariables false
set_option linter.unusedSimpArgs false
/- Two ends over a bag, in plain Lean: what comes, and that all comes at last. -/
namespace Go.Proofs.Ytddhlmejaobcgaa.Lk
open Go Go.Am Co
abbrev Pk := Bg.Pk
/-- Two ends; what was pushed at each; what came at each. -/
structure Ds where
  a : Lk
  b : Lk
  p : List ByteArray
  q : List ByteArray
  c : List ByteArray
  d : List ByteArray
structure Inv (s : Ds) (M N : List ByteArray) : Prop where
  f : Half s.a s.b s.p M s.d
  g : Half s.b s.a s.q N s.c
  qa : s.a.q.length ≤ 64
  qb : s.b.q.length ≤ 64
/-- A packet that was sent. -/
def gd (M N : List ByteArray) (p : Pk) : Prop := (p.to = 1 ∧ p.tx ∈ M) ∨ (p.to = 0 ∧ p.tx ∈ N)
/-- It comes. -/
def arr (s : Ds) (p : Pk) : Ds :=
  if p.to = 0 then { s with a := (takeL s.a p.tx).2, c := if (takeL s.a p.tx).1.2.1 = true then s.c ++ [(takeL s.a p.tx).1.1] else s.c }
  else { s with b := (takeL s.b p.tx).2, d := if (takeL s.b p.tx).1.2.1 = true then s.d ++ [(takeL s.b p.tx).1.1] else s.d }
def snt (s : Ds) : Ds := { s with a := { s.a with o := false }, b := { s.b with o := false } }
/-- The packets with their numbers. -/
def lbl (f t : Int) : Int → List ByteArray → List Pk
  | _, [] => []
  | n, x :: r => ⟨n + 1, f, t, x⟩ :: lbl f t (n + 1) r
def sent (n : Int) (s : Ds) : List Pk := lbl 0 1 n (packets s.a) ++ lbl 1 0 (n + (packets s.a).length) (packets s.b)
theorem lbl_mem {f t : Int} {p : Pk} : ∀ {l : List ByteArray} {n : Int}, p ∈ lbl f t n l → p.fr = f ∧ p.to = t ∧ p.tx ∈ l
  | [], _, h => by cases h
  | x :: r, n, h => by
    rcases List.mem_cons.1 h with rfl | h
    · exact ⟨rfl, rfl, List.mem_cons_self ..⟩
    · obtain ⟨h1, h2, h3⟩ := lbl_mem h
      exact ⟨h1, h2, List.mem_cons_of_mem _ h3⟩
theorem mem_lbl {f t : Int} {x : ByteArray} : ∀ {l : List ByteArray} (n : Int), x ∈ l → ∃ p ∈ lbl f t n l, p.to = t ∧ p.tx = x
  | y :: r, n, h => by
    rcases List.mem_cons.1 h with rfl | h
    · exact ⟨_, List.mem_cons_self .., rfl, rfl⟩
    · obtain ⟨p, h1, h2⟩ := mem_lbl (n + 1) h
      exact ⟨p, List.mem_cons_of_mem _ h1, h2⟩
theorem lbl_len {f t : Int} : ∀ (l : List ByteArray) (n : Int), (lbl f t n l).length = l.length
  | [], _ => rfl
  | x :: r, n => by show (lbl f t (n + 1) r).length + 1 = _; rw [lbl_len]; rfl
theorem packets8 (l : Lk) : (packets l).length ≤ 8 := by
  unfold Lk.packets
  split
  · split <;> simp
  · rw [pks_len, List.length_take]; omega
theorem sent_len (n : Int) (s : Ds) : (sent n s).length ≤ 16 := by
  have h1 := packets8 s.a
  have h2 := packets8 s.b
  simp only [sent, List.length_append, lbl_len]
  omega
/-- What a take does to an end, packet by packet. -/
theorem took {S R : Lk} {P M C P' M' C' : List ByteArray} (h : Half S R P M C) (h' : Half R S P' M' C') {n : Int} {c : Nat} {s : ByteArray} (hp : pk n c s ∈ M) (hc : c ≤ S.c) (hs : s.size ≤ 1970) (hn1 : -1 ≤ n) (hn2 : n ≤ 1000000) (hk : (n = -1 ∧ s = mt) ∨ 0 ≤ n) :
    (ack R (c : Int)).q = (takeL R (pk n c s)).2.q ∧ (ack R (c : Int)).a = (takeL R (pk n c s)).2.a ∧ R.c ≤ (takeL R (pk n c s)).2.c ∧ (R.o = true → (takeL R (pk n c s)).2.o = true) ∧ (0 ≤ n → (takeL R (pk n c s)).2.o = true ∧ (n ≤ R.c → n + 1 ≤ (takeL R (pk n c s)).2.c)) ∧ (n = -1 → (takeL R (pk n c s)).2 = ack R (c : Int)) := by
  have hsc := h'.c
  have hl' := h'.len
  have ht : takeL R (pk n c s) = takeV R n c s := take_pk ⟨by omega, by omega⟩ ⟨by omega, by omega⟩ (by omega)
  rw [ht]
  have e := ack_c R (c : Int)
  rcases hk with ⟨rfl, rfl⟩ | hk
  · rw [take_note R (by omega)]
    exact ⟨rfl, rfl, by rw [e.1]; omega, fun h => by rw [e.2]; exact h, fun h => by omega, fun _ => rfl⟩
  · unfold takeV
    rw [if_neg (by omega), if_neg (by omega)]
    by_cases hkc : n = R.c
    · rw [if_neg (by omega)]
      refine ⟨rfl, rfl, ?_, fun _ => rfl, fun _ => ⟨rfl, fun _ => ?_⟩, fun h => by omega⟩
      · show R.c ≤ R.c + 1; omega
      · show n + 1 ≤ ((R.c + 1 : Nat) : Int); omega
    · rw [if_pos hkc]
      refine ⟨rfl, rfl, ?_, fun _ => rfl, fun _ => ⟨rfl, fun _ => ?_⟩, fun h => by omega⟩
      · show R.c ≤ (ack R (c : Int)).c; rw [e.1]; omega
      · show n + 1 ≤ ((ack R (c : Int)).c : Int); rw [e.1]; omega
theorem ack_len (R : Lk) (c : Int) : (ack R c).q.length ≤ R.q.length := by
  unfold ack
  split
  · show (R.q.drop _).length ≤ _
    rw [List.length_drop]; omega
  · exact Nat.le_refl _
theorem ack_le (R : Lk) (c : Int) : R.a ≤ (ack R c).a := by
  unfold ack
  split
  · show R.a ≤ c.toNat; omega
  · exact Nat.le_refl _
theorem ack_ge {S R : Lk} {P M C : List ByteArray} (h : Half R S P M C) {c : Nat} (hc : c ≤ S.c) : c ≤ (ack R (c : Int)).a := by
  have h1 := h.c
  have hq : R.q.length = P.length - R.a := by rw [h.q, List.length_drop]
  unfold ack
  split
  · show c ≤ ((c : Int)).toNat; omega
  · show c ≤ R.a; omega
/-- An end gets on. -/
structure Le (x y : Lk) : Prop where
  a : x.a ≤ y.a
  c : x.c ≤ y.c
  o : x.o = true → y.o = true
  q : y.q.length ≤ x.q.length
theorem Le.refl (x : Lk) : Le x x := ⟨Nat.le_refl _, Nat.le_refl _, id, Nat.le_refl _⟩
theorem Le.trans {x y z : Lk} (h : Le x y) (k : Le y z) : Le x z := ⟨Nat.le_trans h.a k.a, Nat.le_trans h.c k.c, fun w => k.o (h.o w), Nat.le_trans k.q h.q⟩
theorem take_le {S R : Lk} {P M C P' M' C' : List ByteArray} (h : Half S R P M C) (h' : Half R S P' M' C') {p : ByteArray} (hp : p ∈ M) : Le R (takeL R p).2 := by
  obtain ⟨n, c, s, rfl, hc, hs, hn1, hn2, hk⟩ := h.made p hp
  obtain ⟨h1, h2, h3, h4, h5, h6⟩ := took h h' hp hc hs hn1 hn2 (by rcases hk with hk | ⟨k, rfl, _⟩; exact .inl hk; exact .inr (by omega))
  exact ⟨by rw [← h2]; exact ack_le R _, h3, h4, by rw [← h1]; exact ack_len R _⟩
structure LeS (s t : Ds) : Prop where
  p : t.p = s.p
  q : t.q = s.q
  a : Le s.a t.a
  b : Le s.b t.b
theorem LeS.refl (s : Ds) : LeS s s := ⟨rfl, rfl, Le.refl _, Le.refl _⟩
theorem LeS.trans {s t u : Ds} (h : LeS s t) (k : LeS t u) : LeS s u := ⟨k.p.trans h.p, k.q.trans h.q, h.a.trans k.a, h.b.trans k.b⟩
/-- The other way round. -/
def Ds.sw (s : Ds) : Ds := ⟨s.b, s.a, s.q, s.p, s.d, s.c⟩
theorem Inv.sw {s : Ds} {M N : List ByteArray} (h : Inv s M N) : Inv s.sw N M := ⟨h.g, h.f, h.qb, h.qa⟩
theorem arr_ok {s : Ds} {M N : List ByteArray} (h : Inv s M N) {p : Pk} (hp : gd M N p) : Inv (arr s p) M N ∧ LeS s (arr s p) := by
  rcases hp with ⟨ht, hp⟩ | ⟨ht, hp⟩
  · have e : arr s p = { s with b := (takeL s.b p.tx).2, d := if (takeL s.b p.tx).1.2.1 = true then s.d ++ [(takeL s.b p.tx).1.1] else s.d } := if_neg (by omega)
    rw [e]
    obtain ⟨h1, h2, h3⟩ := h.f.take h.g hp
    have hl := take_le h.f h.g hp
    exact ⟨⟨h2, h3, h.qa, Nat.le_trans hl.q h.qb⟩, rfl, rfl, Le.refl _, hl⟩
  · have e : arr s p = { s with a := (takeL s.a p.tx).2, c := if (takeL s.a p.tx).1.2.1 = true then s.c ++ [(takeL s.a p.tx).1.1] else s.c } := if_pos ht
    rw [e]
    obtain ⟨h1, h2, h3⟩ := h.g.take h.f hp
    have hl := take_le h.g h.f hp
    exact ⟨⟨h3, h2, Nat.le_trans hl.q h.qa, h.qb⟩, rfl, rfl, hl, Le.refl _⟩
theorem arrs_ok {M N : List ByteArray} : ∀ (l : List Pk) {s : Ds}, Inv s M N → (∀ p ∈ l, gd M N p) → Inv (l.foldl arr s) M N ∧ LeS s (l.foldl arr s)
  | [], s, h, _ => ⟨h, LeS.refl _⟩
  | p :: r, s, h, hg => by
    obtain ⟨h1, h2⟩ := arr_ok h (hg p (List.mem_cons_self ..))
    obtain ⟨h3, h4⟩ := arrs_ok r h1 fun q hq => hg q (List.mem_cons_of_mem _ hq)
    exact ⟨h3, h2.trans h4⟩
theorem snt_ok {s : Ds} {M N : List ByteArray} (h : Inv s M N) : Inv (snt s) (M ++ packets s.a) (N ++ packets s.b) :=
  ⟨(h.f.packets).recv (R' := { s.b with o := false }) rfl, (h.g.packets).recv (R' := { s.a with o := false }) rfl, h.qa, h.qb⟩
theorem gd.left {M N M' N' : List ByteArray} {p : Pk} (h : gd M N p) : gd (M ++ M') (N ++ N') p := by
  rcases h with ⟨h1, h2⟩ | ⟨h1, h2⟩
  · exact .inl ⟨h1, List.mem_append_left _ h2⟩
  · exact .inr ⟨h1, List.mem_append_left _ h2⟩
theorem gd_sent {s : Ds} {M N : List ByteArray} {n : Int} : ∀ p ∈ sent n s, gd (M ++ packets s.a) (N ++ packets s.b) p := fun p hp => by
  rcases List.mem_append.1 hp with hp | hp
  · obtain ⟨-, h1, h2⟩ := lbl_mem hp
    exact .inl ⟨h1, List.mem_append_right _ h2⟩
  · obtain ⟨-, h1, h2⟩ := lbl_mem hp
    exact .inr ⟨h1, List.mem_append_right _ h2⟩
end Go.Proofs.Ytddhlmejaobcgaa.Lk
