import Derived.Test.YtddhlmejaobcgaaWCe
set_option maxRecDepth 100000
set_option linter.unusedVariables false
set_option linter.unusedSimpArgs false
/- The statement WigwagCarried. -/
namespace Go.Proofs.Ytddhlmejaobcgaa.Lk
open Go Go.Am Co
def tysC : Tys := [(3, ⟨.scalar, false, 1, [.int .i64 0], [.int .i64], false, 0⟩), (54, ⟨.slice 56 1 8 false, false, 1, [.slice none 0 0], [.other], false, 0⟩), (70, ⟨.slice 3 1 8 false, false, 1, [.slice none 0 0], [.other], false, 0⟩), (56, ⟨.scalar, false, 1, [.int .u64 0], [.int .u64], false, 0⟩), (26, ⟨.slice 9 1 16 false, false, 1, [.slice none 0 0], [.other], false, 0⟩), (77, ⟨.struct [(0, 56), (1, 3), (2, 70)], true, 3, [.int .u64 0, .int .i64 0, .slice none 0 0], [.int .u64, .int .i64, .other], true, 0⟩), (23, ⟨.slice 38 4 40 false, false, 1, [.slice none 0 0], [.other], false, 0⟩), (101, ⟨.map 3 104, false, 1, [.map none], [.other], false, 0⟩), (38, ⟨.struct [(0, 3), (1, 3), (2, 3), (3, 9)], true, 4, [.int .i64 0, .int .i64 0, .int .i64 0, .string ⟨#[]⟩], [.int .i64, .int .i64, .int .i64, .str], true, 0⟩), (9, ⟨.str, false, 1, [.string ⟨#[]⟩], [.str], false, 0⟩), (55, ⟨.scalar, false, 1, [.int .u64 0], [.int .u64], false, 0⟩), (97, ⟨.struct [(0, 9), (1, 3), (2, 34)], true, 3, [.string ⟨#[]⟩, .int .i64 0, .nilIface], [.str, .int .i64, .other], false, 0⟩), (34, ⟨.iface, false, 1, [.nilIface], [.other], false, 0⟩), (151, ⟨.scalar, false, 1, [.int .u64 0], [.int .u64], false, 0⟩), (28, ⟨.struct [(0, 26), (1, 3), (2, 3), (3, 4)], true, 4, [.slice none 0 0, .int .i64 0, .int .i64 0, .bool false], [.other, .int .i64, .int .i64, .bool], true, 1⟩), (103, ⟨.struct [(0, 101)], true, 1, [.map none], [.other], true, 0⟩), (30, ⟨.array 2 26 1, true, 2, [.slice none 0 0, .slice none 0 0], [.other, .other], true, 1⟩), (25, ⟨.struct [(0, 3), (1, 23)], true, 2, [.int .i64 0, .slice none 0 0], [.int .i64, .other], true, 104⟩), (106, ⟨.struct [(0, 4), (1, 77)], true, 4, [.bool false, .int .u64 0, .int .i64 0, .slice none 0 0], [.bool, .int .u64, .int .i64, .other], true, 0⟩), (57, ⟨.slice 5 1 1 true, false, 1, [.slice none 0 0], [.other], false, 0⟩), (95, ⟨.scalar, false, 1, [.int .u64 0], [.int .u64], false, 0⟩), (42, ⟨.struct [(0, 3), (1, 3), (2, 9)], true, 3, [.int .i64 0, .int .i64 0, .string ⟨#[]⟩], [.int .i64, .int .i64, .str], true, 0⟩), (5, ⟨.scalar, false, 1, [.int .u8 0], [.int .u8], false, 0⟩), (4, ⟨.scalar, false, 1, [.bool false], [.bool], false, 0⟩), (59, ⟨.struct [(0, 57)], true, 1, [.slice none 0 0], [.other], true, 0⟩), (71, ⟨.ptr, false, 1, [.pointer none], [.other], false, 0⟩), (29, ⟨.array 2 28 4, true, 8, [.slice none 0 0, .int .i64 0, .int .i64 0, .bool false, .slice none 0 0, .int .i64 0, .int .i64 0, .bool false], [.other, .int .i64, .int .i64, .bool, .other, .int .i64, .int .i64, .bool], true, 1⟩), (143, ⟨.scalar, false, 1, [.int .u32 0], [.int .u32], false, 0⟩), (116, ⟨.struct [(0, 9), (1, 3), (2, 34)], true, 3, [.string ⟨#[]⟩, .int .i64 0, .nilIface], [.str, .int .i64, .other], false, 0⟩), (114, ⟨.ptr, false, 1, [.pointer none], [.other], false, 0⟩), (136, ⟨.scalar, false, 1, [.int .i64 0], [.int .i64], false, 0⟩), (85, ⟨.scalar, false, 1, [.int .i64 0], [.int .i64], false, 0⟩), (104, ⟨.ptr, false, 1, [.pointer none], [.other], false, 0⟩), (22, ⟨.slice 42 3 32 false, false, 1, [.slice none 0 0], [.other], false, 0⟩)]
theorem tysCOk : TysOk Try.prog tysC := TysOk.of (by kernel_rfl)
def od3 : Ords := [(38, [0, 1, 2, 3, 4, 5, 6, 7, 8, 9, 10, 11, 12, 13, 14, 15, 16, 17, 18, 19, 20, 21, 22, 1023, 24, 25]), (34, [0, 1, 2, 4, 5, 6, 7, 8, 10, 2034, 3, 2035, 11, 9, 12, 13, 1014]), (2034, [11, 3, 9, 12, 13, 1014]), (2035, [9, 11, 12, 13, 1014])]
theorem code3 : codeB Try.f3.ntmps od3 (match Try.f3.body with | some c => c | none => .skip) = true := by kernel_rfl
/-- What happens to the packets. -/
structure Trip where
  k : Int
  n : Int
  s : ByteArray
def trC (a : Trip) : List D := [nI a.k, nI a.n, sD a.s]
theorem trC_len (a : Trip) : (trC a).length = 3 := rfl
theorem trE {l : List Trip} {i : Nat} {x : Trip} (h : l[i]? = some x) : Elem (flat trC l) [.int .i64, .int .i64, .str] (i * 3) 3 (trC x) := Elem.all trC_len h [.int .i64, .int .i64, .str] rfl ⟨rfl, rfl, rfl, True.intro⟩ rfl
abbrev s5 (b : Bg.B) (E F : Lk) (P Q C D : List ByteArray) : Store := [Bg.rowS b.e b.l b.j, .var [.d (nI b.n), .row 0 b.e 0 b.l.length], .var (lkC E ++ lkC F), prL P Q, prL C D, .var [.d (nI 1), .d (nI 1), .d (nI 2), .d (sD ⟨#[120]⟩)]]
theorem keep6 : ∀ i, i < 6 → [0, 1, 2, 3, 4, 5][i]? = some i := by
  intro j hj
  have : j = 0 ∨ j = 1 ∨ j = 2 ∨ j = 3 ∨ j = 4 ∨ j = 5 := by omega
  rcases this with rfl | rfl | rfl | rfl | rfl | rfl <;> rfl
theorem keep7 : ∀ i, i < 7 → [0, 1, 2, 3, 4, 5, 6][i]? = some i := by
  intro j hj
  have : j = 0 ∨ j = 1 ∨ j = 2 ∨ j = 3 ∨ j = 4 ∨ j = 5 ∨ j = 6 := by omega
  rcases this with rfl | rfl | rfl | rfl | rfl | rfl | rfl <;> rfl
theorem keep8 : ∀ i, i < 8 → [0, 1, 2, 3, 4, 5, 6, 7][i]? = some i := by
  intro j hj
  have : j = 0 ∨ j = 1 ∨ j = 2 ∨ j = 3 ∨ j = 4 ∨ j = 5 ∨ j = 6 ∨ j = 7 := by omega
  rcases this with rfl | rfl | rfl | rfl | rfl | rfl | rfl | rfl <;> rfl
theorem keep9 : ∀ i, i < 9 → [0, 1, 2, 3, 4, 5, 6, 7, 8][i]? = some i := by
  intro j hj
  have : j = 0 ∨ j = 1 ∨ j = 2 ∨ j = 3 ∨ j = 4 ∨ j = 5 ∨ j = 6 ∨ j = 7 ∨ j = 8 := by omega
  rcases this with rfl | rfl | rfl | rfl | rfl | rfl | rfl | rfl | rfl <;> rfl
theorem Half.tail {S R : Lk} {P M C : List ByteArray} (h : Half S R P M C) : decide ((C.length : Int) > (P.length : Int)) = false ∧ C.length ≤ P.length ∧ P.take C.length = C ∧ C.length ≤ 1000 := by
  have hc := h.c
  have hn := h.len
  have hl : C.length = R.c := by rw [h.came, List.length_take]; omega
  refine ⟨decide_eq_false (by omega), by omega, ?_, by omega⟩
  rw [hl]; exact h.came.symm
theorem Inv.ok {s : Ds} {M N : List ByteArray} (h : Inv s M N) : s.a.ok ∧ s.b.ok := by
  have h1 := h.f.a
  have h2 := h.f.c
  have h3 := h.f.len
  have h4 := h.g.a
  have h5 := h.g.c
  have h6 := h.g.len
  have h7 := h.f.q
  have h8 := h.g.q
  have h9 := h.f.sz
  have h10 := h.g.sz
  have h11 := h.qa
  have h12 := h.qb
  obtain ⟨⟨q, a, c, o⟩, ⟨q', a', c', o'⟩, p, q2, c2, d2⟩ := s
  dsimp only at *
  exact ⟨Lk.ok.mk' h11 (fun s hs => h9 s (List.mem_of_mem_drop (h7 ▸ hs))) (by omega) (by omega), Lk.ok.mk' h12 (fun s hs => h10 s (List.mem_of_mem_drop (h8 ▸ hs))) (by omega) (by omega)⟩
theorem gd.size {s : Ds} {M N : List ByteArray} (h : Inv s M N) {p : Pk} (hp : gd M N p) : p.tx.size ≤ 2000 := by
  have a2 := h.f.c
  have a3 := h.f.len
  have a5 := h.g.c
  have a6 := h.g.len
  have key : ∀ (P : List ByteArray) (c : Nat) (x : ByteArray), c ≤ 1000 → madeOk P c x → x.size ≤ 2000 := fun P c x hc ⟨n, k, s, e, h2, h3, h4, h5, h6⟩ => by
    have := pk_size (n := n) (c := (k : Int)) (s := s) ⟨by omega, by omega⟩ ⟨by omega, by omega⟩ (by omega)
    rw [e]; omega
  rcases hp with ⟨_, hp⟩ | ⟨_, hp⟩
  · exact key _ _ _ (by omega) (h.f.made _ hp)
  · exact key _ _ _ (by omega) (h.g.made _ hp)
theorem ix_find {l : List Pk} {p : Pk} (hp : p ∈ l) : ∃ (k : Nat) (q : Pk), Bg.ixI p.id l = k ∧ l[k]? = some q ∧ q ∈ l := by
  rcases Bg.ixD_spec (fun q => q.id == p.id) l 0 with ⟨h1, h2⟩ | ⟨k, q, h1, h2, h3, h4⟩
  · have := h2 p hp
    simp at this
  · exact ⟨k, q, by unfold Bg.ixI; rw [h1, Nat.zero_add], h2, List.mem_of_getElem? h2⟩
theorem take_nil {S R : Lk} {P M C P' M' C' : List ByteArray} (h : Half S R P M C) (h' : Half R S P' M' C') {p : ByteArray} (hp : p ∈ M) : takeL R p = (((takeL R p).1.1, (takeL R p).1.2.1, .lit .nilIface), (takeL R p).2) := by
  obtain ⟨h1, -, -⟩ := h.take h' hp
  rw [← h1]
theorem push_small (l : Lk) {s : ByteArray} (h : s.size ≤ 50) : push l s = (4, l) ∨ (l.q.length < 64 ∧ push l s = (0, { l with q := l.q ++ [s] })) := by
  unfold push
  rw [if_neg (by omega)]
  by_cases hq : l.q.length ≥ 64
  · left; rw [if_pos hq]
  · right; exact ⟨by omega, if_neg hq⟩
theorem gd_del {M N : List ByteArray} {l : List Pk} (h : ∀ p ∈ l, gd M N p) (i : Nat) : ∀ p ∈ l.eraseIdx i, gd M N p := fun p hp => h p (List.mem_of_mem_eraseIdx hp)
set_option maxHeartbeats 64000000 in
theorem ok3 (T : List Trip) : Go.Am.Pure Try.prog 3 [slF trC T] (bI true) := by
  refine CallOk.of tysCOk mixed od3 Try.func3 rfl rfl code3 ?_
  repeat (first | refine W.ite_t rfl ?_ | refine W.ite_f rfl ?_ | refine W.need (by decide) ?_)
  refine W.callT [2] (okA6 lk0 lk0) (by decide) rfl rfl rfl rfl ?_
  rintro v σ ⟨rfl, rfl⟩
  repeat (first | refine W.ite_t rfl ?_ | refine W.ite_f rfl ?_ | refine W.need (by decide) ?_)
  refine W.callT [0, 1] (Bg.ok7 ⟨0, [], 0, []⟩) (by decide) rfl rfl rfl rfl ?_
  rintro v σ ⟨rfl, rfl⟩
  repeat (first | refine W.ite_t rfl ?_ | refine W.ite_f rfl ?_ | refine W.need (by decide) ?_)
  refine W.callT [0, 1] (Bg.ok8S ⟨0, [], 0, []⟩ 1 2 ⟨#[120]⟩ (by decide) (by decide) ⟨by decide, by decide⟩) (by decide) rfl rfl rfl rfl ?_
  rintro v σ ⟨rfl, e0, j0, rfl⟩
  repeat (first | refine W.ite_t rfl ?_ | refine W.ite_f rfl ?_ | refine W.need (by decide) ?_)
  refine W.callT [0, 1] (Bg.ok9S ⟨1, [⟨1, 1, 2, ⟨#[120]⟩⟩], e0, j0⟩ 1 (by show (1 : Nat) ≤ 1000000; decide) (i := 0) (p := ⟨1, 1, 2, ⟨#[120]⟩⟩) rfl rfl) (by decide) rfl rfl rfl rfl ?_
  rintro v σ ⟨rfl, rfl⟩
  repeat (first | refine W.ite_t rfl ?_ | refine W.ite_f rfl ?_ | refine W.need (by decide) ?_)
  generalize Bg.pkC Bg.pk0 ++ j0 = j1
  refine W.loop (fun k fr σ => ∃ (i : Nat) (b : Bg.B) (s : Ds) (M N : List ByteArray), fr = [(0, slF trC T), (3, .ptr 1 0), (4, .ptr 2 0), (5, .ptr 3 0), (6, .ptr 4 0), (11, .d (nI i))] ∧ σ = s5 b s.a s.b s.p s.q s.c s.d ∧ i ≤ 80 ∧ k = 80 - i ∧ Inv s M N ∧ (∀ p ∈ b.l, gd M N p) ∧ b.l.length ≤ 17 * i ∧ (1 ≤ b.n ∧ b.n ≤ 1 + 17 * i) ∧ s.p.length ≤ i ∧ s.q.length ≤ i) 80
    (Start.of [0, 3, 4, 5, 6, 11] [] (by simp)) ?INIT ?_
  case INIT => exact ⟨0, ⟨1, [], e0, j1⟩, ⟨lk0, lk0, [], [], [], []⟩, [], [], rfl, rfl, by omega, rfl, ⟨Half.zero, Half.zero, by decide, by decide⟩, by simp, by show 0 ≤ 17 * 0; decide, ⟨by show (1 : Int) ≤ 1; decide, by show (1 : Int) ≤ 1 + 17 * 0; decide⟩, by decide, by decide⟩
  rintro k fr σ ⟨i, ⟨n0, l, e0, j0⟩, ⟨E, F, P, Q, C, D⟩, M, N, rfl, rfl, hi, rfl, hI, hG, hl, hn, hP, hQ⟩
  dsimp only at hl hn hP hQ hG
  obtain ⟨hEok, hFok⟩ := hI.ok
  dsimp only at hEok hFok
  have g4 : i < 80 → IntKind.i64.wrap ((i : Int) + 1) = ((i + 1 : Nat) : Int) := fun _ => by rw [wrap64 (by omega) (by omega)]; rfl
  by_cases hgo : i < T.length ∧ i < 80
  · obtain ⟨hil, hi8⟩ := hgo
    have g4 := g4 hi8
    have c1 : decide ((i : Int) < (T.length : Int)) = true := decide_eq_true (by omega)
    have c2 : decide ((i : Int) < 80) = true := decide_eq_true (by omega)
    repeat (first | refine W.ite_t rfl ?_ | refine W.ite_f rfl ?_ | refine W.ite_t c1 ?_ | refine W.ite_t c2 ?_)
    obtain ⟨⟨kk, nn, s⟩, ha⟩ : ∃ x, T[i]? = some x := ⟨_, List.getElem?_eq_getElem hil⟩
    refine W.need (ix_ok trC_len (by decide) hil) ?_
    refine W.ld (trE ha) ?_
    by_cases k1 : kk = 1
    · subst k1
      repeat (first | refine W.ite_t rfl ?_ | refine W.ite_f rfl ?_ | refine W.need (by decide) ?_)
      have hz := sent_len n0 ⟨E, F, P, Q, C, D⟩
      have z1 := packets8 E
      have z2 := packets8 F
      refine W.callT [0, 1, 2] (ok10 ⟨n0, l, e0, j0⟩ E F hEok hFok (by dsimp only; omega) ⟨by dsimp only; omega, by dsimp only; omega⟩) (by decide) rfl rfl rfl rfl ?_
      rintro v σ ⟨rfl, e1, j1, rfl⟩
      repeat (first | refine W.ite_t rfl ?_ | refine W.ite_f rfl ?_ | refine W.need (by decide) ?_)
      have hI' : Inv ⟨{ E with o := false }, { F with o := false }, P, Q, C, D⟩ (M ++ packets E) (N ++ packets F) := snt_ok hI
      obtain ⟨t1, t3, t4, t5⟩ := Half.tail hI'.f
      obtain ⟨u1, u3, u4, u5⟩ := Half.tail hI'.g
      dsimp only at t1 t3 t4 t5 u1 u3 u4 u5
      have kS1 : Go.Am.Pure Try.prog 16 [slS (C), .d (.sl (C).length ((flat sC (Q)).take ((C).length * 1)))] (bI true) := by
        rw [flat_take sC_len, u4]; exact ok16 _ (by omega)
      have kS2 : Go.Am.Pure Try.prog 16 [slS (D), .d (.sl (D).length ((flat sC (P)).take ((D).length * 1)))] (bI true) := by
        rw [flat_take sC_len, t4]; exact ok16 _ (by omega)
      refine W.loop (fun k fr σ => σ = s5 ⟨n0 + (packets E).length + (packets F).length, l ++ lbl 0 1 n0 (packets E) ++ lbl 1 0 (n0 + (packets E).length) (packets F), e1, j1⟩ ({ E with o := false }) ({ F with o := false }) (P) (Q) (C) (D) ++ [.var [.d (nI 1), .d (nI nn), .d (sD s)]] ∧ ((k = 2 ∧ fr = [(0, slF trC T), (3, .ptr 1 0), (4, .ptr 2 0), (5, .ptr 3 0), (6, .ptr 4 0), (11, .d (nI i)), (141, .d (nI 0))]) ∨ (k = 1 ∧ fr = [(0, slF trC T), (3, .ptr 1 0), (4, .ptr 2 0), (5, .ptr 3 0), (6, .ptr 4 0), (11, .d (nI i)), (141, .d (nI 1))]) ∨ (k = 0 ∧ fr = [(0, slF trC T), (3, .ptr 1 0), (4, .ptr 2 0), (5, .ptr 3 0), (6, .ptr 4 0), (11, .d (nI i)), (141, .d (nI 2))]))) 2
        (Start.of [0, 3, 4, 5, 6, 11, 141] [] (by simp)) ⟨rfl, .inl ⟨rfl, rfl⟩⟩ ?_
      rintro k fr σ ⟨rfl, (⟨rfl, rfl⟩ | ⟨rfl, rfl⟩ | ⟨rfl, rfl⟩)⟩
      · refine W.ite_t rfl ?_
        repeat (first | refine W.ite_t rfl ?_ | refine W.ite_f rfl ?_ | refine W.need (by decide) ?_ | refine W.ite_f u1 ?_ | refine W.need ⟨Int.natCast_nonneg _, Int.ofNat_le.2 u3⟩ ?_ | refine W.pure kS1 rfl rfl ?_)
        exact W.ret ⟨_, _, _, by decide, Trim.of [0, 3, 4, 5, 6, 11, 141] [0, 1, 2, 3, 4, 5, 6] (by decide) (by show ∀ i ∈ [0, 1, 2, 3, 4, 5, 6], i < 7; simp) keep7, rfl, .inr (.inl ⟨rfl, rfl⟩)⟩
      · refine W.ite_t rfl ?_
        repeat (first | refine W.ite_t rfl ?_ | refine W.ite_f rfl ?_ | refine W.need (by decide) ?_ | refine W.ite_f t1 ?_ | refine W.need ⟨Int.natCast_nonneg _, Int.ofNat_le.2 t3⟩ ?_ | refine W.pure kS2 rfl rfl ?_)
        exact W.ret ⟨_, _, _, by decide, Trim.of [0, 3, 4, 5, 6, 11, 141] [0, 1, 2, 3, 4, 5, 6] (by decide) (by show ∀ i ∈ [0, 1, 2, 3, 4, 5, 6], i < 7; simp) keep7, rfl, .inr (.inr ⟨rfl, rfl⟩)⟩
      · refine W.ite_f rfl ?_
        refine W.ret ?_
        refine W.ret ⟨_, _, _, ?_, Trim.of [0, 3, 4, 5, 6, 11] [0, 1, 2, 3, 4, 5] (by decide) (by show ∀ i ∈ [0, 1, 2, 3, 4, 5], i < 7; simp) keep6, i + 1, ⟨n0 + (packets E).length + (packets F).length, l ++ lbl 0 1 n0 (packets E) ++ lbl 1 0 (n0 + (packets E).length) (packets F), e1, j1⟩, ⟨{ E with o := false }, { F with o := false }, P, Q, C, D⟩, (M ++ packets E), (N ++ packets F), ?_, rfl, by omega, rfl, hI', (fun p hp => by
            rcases List.mem_append.1 (List.append_assoc .. ▸ hp : p ∈ l ++ (lbl 0 1 n0 (packets E) ++ lbl 1 0 (n0 + (packets E).length) (packets F))) with hp | hp
            · exact (hG p hp).left
            · exact gd_sent (s := ⟨E, F, P, Q, C, D⟩) (n := n0) p hp), by simp only [List.length_append, lbl_len]; omega, ⟨by dsimp only; omega, by dsimp only; omega⟩, by dsimp only; omega, by dsimp only; omega⟩
        · omega
        · rw [← g4]; rfl
    by_cases k2 : kk = 2
    · subst k2
      repeat (first | refine W.ite_t rfl ?_ | refine W.ite_f rfl ?_ | refine W.need (by decide) ?_)
      refine W.callT [0, 1] (Bg.ok11 ⟨n0, l, e0, j0⟩ (by dsimp only; omega)) (by decide) rfl rfl rfl rfl ?_
      rintro v σ ⟨rfl, rfl⟩
      by_cases hl0 : l.length = 0
      · have d0 : ((l.length : Int) == 0) = true := by rw [hl0]; rfl
        repeat (first | refine W.ite_t rfl ?_ | refine W.ite_f rfl ?_ | refine W.need (by decide) ?_ | refine W.ite_t d0 ?_)
        refine W.ret ⟨_, _, _, ?_, Trim.of [0, 3, 4, 5, 6, 11] [0, 1, 2, 3, 4, 5] (by decide) (by show ∀ i ∈ [0, 1, 2, 3, 4, 5], i < 7; simp) keep6, i + 1, ⟨n0, l, e0, j0⟩, ⟨E, F, P, Q, C, D⟩, M, N, ?_, rfl, by omega, rfl, hI, hG, by dsimp only; omega, ⟨by dsimp only; omega, by dsimp only; omega⟩, by dsimp only; omega, by dsimp only; omega⟩
        · omega
        · rw [← g4]; rfl
      have d0 : ((l.length : Int) == 0) = false := by rw [beq_eq_false_iff_ne]; omega
      by_cases hneg : nn < 0
      · have d1 : decide (nn < 0) = true := decide_eq_true hneg
        repeat (first | refine W.ite_t rfl ?_ | refine W.ite_f rfl ?_ | refine W.need (by decide) ?_ | refine W.ite_f d0 ?_ | refine W.ite_t d1 ?_)
        refine W.ret ⟨_, _, _, ?_, Trim.of [0, 3, 4, 5, 6, 11] [0, 1, 2, 3, 4, 5] (by decide) (by show ∀ i ∈ [0, 1, 2, 3, 4, 5], i < 7; simp) keep6, i + 1, ⟨n0, l, e0, j0⟩, ⟨E, F, P, Q, C, D⟩, M, N, ?_, rfl, by omega, rfl, hI, hG, by dsimp only; omega, ⟨by dsimp only; omega, by dsimp only; omega⟩, by dsimp only; omega, by dsimp only; omega⟩
        · omega
        · rw [← g4]; rfl
      have d1 : decide (nn < 0) = false := decide_eq_false hneg
      obtain ⟨m, rfl⟩ := Int.eq_ofNat_of_zero_le (show 0 ≤ nn by omega)
      have hne : (l.length : Int) ≠ 0 := by omega
      have hmod : ((m : Int)).tmod (l.length : Int) = ((m % l.length : Nat) : Int) := rfl
      have hlt : m % l.length < l.length := Nat.mod_lt _ (by omega)
      obtain ⟨p, hp⟩ : ∃ p, l[m % l.length]? = some p := ⟨_, List.getElem?_eq_getElem hlt⟩
      have hpm := List.mem_of_getElem? hp
      obtain ⟨kq, q, hq1, hq2, hq3⟩ := ix_find hpm
      have hqg := hG q hq3
      have hkl := (List.getElem?_eq_some_iff.1 hq2).1
      have hix : (0 : Int) ≤ ((m : Int)).tmod (l.length : Int) ∧ ((m : Int)).tmod (l.length : Int) < (l.length : Int) ∧ flat Bg.pkC l ≠ [] := by rw [hmod]; exact ix_ok Bg.pkC_len (by decide) hlt
      have hel : Elem (flat Bg.pkC l) [.int .i64, .int .i64, .int .i64, .str] ((((m : Int)).tmod (l.length : Int)).toNat * 4) 4 (Bg.pkC p) := by rw [hmod]; exact Elem.all Bg.pkC_len hp _ rfl ⟨rfl, rfl, rfl, rfl, True.intro⟩ rfl
      repeat (first | refine W.ite_t rfl ?_ | refine W.ite_f rfl ?_ | refine W.need (by decide) ?_ | refine W.ite_f d0 ?_ | refine W.ite_f d1 ?_ | refine W.need hne ?_ | refine W.need hix ?_)
      refine W.ld hel ?_
      repeat (first | refine W.ite_t rfl ?_ | refine W.ite_f rfl ?_ | refine W.need (by decide) ?_)
      refine W.callT [0, 1] (Bg.ok9S ⟨n0, l, e0, j0⟩ p.id (by dsimp only; omega) hq1 hq2) (by decide) rfl rfl rfl rfl ?_
      rintro v σ ⟨rfl, rfl⟩
      have hdl : (l.eraseIdx kq).length ≤ l.length := List.length_eraseIdx_le ..
      have hGd := gd_del hG kq
      generalize Bg.pkC Bg.pk0 ++ j0 = j1
      generalize l.eraseIdx kq = l1 at *
      repeat (first | refine W.ite_t rfl ?_ | refine W.ite_f rfl ?_ | refine W.need (by decide) ?_)
      obtain ⟨qi, qf, qt, qx⟩ := q
      rcases hqg with ⟨ht, hx⟩ | ⟨ht, hx⟩
      · dsimp only at ht hx
        subst ht
        have hsz := (show qx.size ≤ 2000 from gd.size (p := ⟨qi, qf, 1, qx⟩) hI (.inl ⟨rfl, hx⟩))
        have htk := take_nil hI.f hI.g hx
        obtain ⟨g1, g2, g3⟩ := hI.f.take hI.g hx
        have g5 := (take_le hI.f hI.g hx).q
        dsimp only at htk g1 g2 g3 g5
        have hqq := hI.qb
        dsimp only at hqq
        generalize (takeL F qx).1.1 = v at *
        generalize (takeL F qx).1.2.1 = ok at *
        generalize (takeL F qx).2 = R at *
        have hCl : (D).length ≤ 1000 := (Half.tail hI.f).2.2.2
        have kA := ok13B E F hFok C D (by omega) qi qf qx (by omega) htk
        generalize hC2 : (if ok = true then D ++ [v] else D) = C2 at *
        refine W.callT [2, 4] kA (by decide) rfl rfl rfl rfl ?_
        rintro v2 σ ⟨rfl, rfl⟩
        repeat (first | refine W.ite_t rfl ?_ | refine W.ite_f rfl ?_ | refine W.need (by decide) ?_)
        have hI' : Inv ⟨E, R, P, Q, C, C2⟩ M N := ⟨g2, g3, hI.qa, Nat.le_trans g5 hqq⟩
        obtain ⟨t1, t3, t4, t5⟩ := Half.tail hI'.f
        obtain ⟨u1, u3, u4, u5⟩ := Half.tail hI'.g
        dsimp only at t1 t3 t4 t5 u1 u3 u4 u5
        have kS1 : Go.Am.Pure Try.prog 16 [slS (C), .d (.sl (C).length ((flat sC (Q)).take ((C).length * 1)))] (bI true) := by
          rw [flat_take sC_len, u4]; exact ok16 _ (by omega)
        have kS2 : Go.Am.Pure Try.prog 16 [slS (C2), .d (.sl (C2).length ((flat sC (P)).take ((C2).length * 1)))] (bI true) := by
          rw [flat_take sC_len, t4]; exact ok16 _ (by omega)
        refine W.loop (fun k fr σ => σ = s5 ⟨n0, l1, e0, j1⟩ (E) (R) (P) (Q) (C) (C2) ++ [.var [.d (nI 2), .d (nI (m : Int)), .d (sD s)], .var [.d (nI p.id), .d (nI p.fr), .d (nI p.to), .d (sD p.tx)], .var [.d (nI qi), .d (nI qf), .d (nI 1), .d (sD qx)]] ∧ ((k = 2 ∧ fr = [(0, slF trC T), (3, .ptr 1 0), (4, .ptr 2 0), (5, .ptr 3 0), (6, .ptr 4 0), (11, .d (nI i)), (141, .d (nI 0))]) ∨ (k = 1 ∧ fr = [(0, slF trC T), (3, .ptr 1 0), (4, .ptr 2 0), (5, .ptr 3 0), (6, .ptr 4 0), (11, .d (nI i)), (141, .d (nI 1))]) ∨ (k = 0 ∧ fr = [(0, slF trC T), (3, .ptr 1 0), (4, .ptr 2 0), (5, .ptr 3 0), (6, .ptr 4 0), (11, .d (nI i)), (141, .d (nI 2))]))) 2
          (Start.of [0, 3, 4, 5, 6, 11, 141] [] (by simp)) ⟨rfl, .inl ⟨rfl, rfl⟩⟩ ?_
        rintro k fr σ ⟨rfl, (⟨rfl, rfl⟩ | ⟨rfl, rfl⟩ | ⟨rfl, rfl⟩)⟩
        · refine W.ite_t rfl ?_
          repeat (first | refine W.ite_t rfl ?_ | refine W.ite_f rfl ?_ | refine W.need (by decide) ?_ | refine W.ite_f u1 ?_ | refine W.need ⟨Int.natCast_nonneg _, Int.ofNat_le.2 u3⟩ ?_ | refine W.pure kS1 rfl rfl ?_)
          exact W.ret ⟨_, _, _, by decide, Trim.of [0, 3, 4, 5, 6, 11, 141] [0, 1, 2, 3, 4, 5, 6, 7, 8] (by decide) (by show ∀ i ∈ [0, 1, 2, 3, 4, 5, 6, 7, 8], i < 9; simp) keep9, rfl, .inr (.inl ⟨rfl, rfl⟩)⟩
        · refine W.ite_t rfl ?_
          repeat (first | refine W.ite_t rfl ?_ | refine W.ite_f rfl ?_ | refine W.need (by decide) ?_ | refine W.ite_f t1 ?_ | refine W.need ⟨Int.natCast_nonneg _, Int.ofNat_le.2 t3⟩ ?_ | refine W.pure kS2 rfl rfl ?_)
          exact W.ret ⟨_, _, _, by decide, Trim.of [0, 3, 4, 5, 6, 11, 141] [0, 1, 2, 3, 4, 5, 6, 7, 8] (by decide) (by show ∀ i ∈ [0, 1, 2, 3, 4, 5, 6, 7, 8], i < 9; simp) keep9, rfl, .inr (.inr ⟨rfl, rfl⟩)⟩
        · refine W.ite_f rfl ?_
          refine W.ret ?_
          refine W.ret ⟨_, _, _, ?_, Trim.of [0, 3, 4, 5, 6, 11] [0, 1, 2, 3, 4, 5] (by decide) (by show ∀ i ∈ [0, 1, 2, 3, 4, 5], i < 9; simp) keep6, i + 1, ⟨n0, l1, e0, j1⟩, ⟨E, R, P, Q, C, C2⟩, M, N, ?_, rfl, by omega, rfl, hI', hGd, by dsimp only; omega, ⟨by dsimp only; omega, by dsimp only; omega⟩, by dsimp only; omega, by dsimp only; omega⟩
          · omega
          · rw [← g4]; rfl
      · dsimp only at ht hx
        subst ht
        have hsz := (show qx.size ≤ 2000 from gd.size (p := ⟨qi, qf, 0, qx⟩) hI (.inr ⟨rfl, hx⟩))
        have htk := take_nil hI.g hI.f hx
        obtain ⟨g1, g2, g3⟩ := hI.g.take hI.f hx
        have g5 := (take_le hI.g hI.f hx).q
        dsimp only at htk g1 g2 g3 g5
        have hqq := hI.qa
        dsimp only at hqq
        generalize (takeL E qx).1.1 = v at *
        generalize (takeL E qx).1.2.1 = ok at *
        generalize (takeL E qx).2 = R at *
        have hCl : (C).length ≤ 1000 := (Half.tail hI.g).2.2.2
        have kA := ok13A E F hEok C D (by omega) qi qf qx (by omega) htk
        generalize hC2 : (if ok = true then C ++ [v] else C) = C2 at *
        refine W.callT [2, 4] kA (by decide) rfl rfl rfl rfl ?_
        rintro v2 σ ⟨rfl, rfl⟩
        repeat (first | refine W.ite_t rfl ?_ | refine W.ite_f rfl ?_ | refine W.need (by decide) ?_)
        have hI' : Inv ⟨R, F, P, Q, C2, D⟩ M N := ⟨g3, g2, Nat.le_trans g5 hqq, hI.qb⟩
        obtain ⟨t1, t3, t4, t5⟩ := Half.tail hI'.f
        obtain ⟨u1, u3, u4, u5⟩ := Half.tail hI'.g
        dsimp only at t1 t3 t4 t5 u1 u3 u4 u5
        have kS1 : Go.Am.Pure Try.prog 16 [slS (C2), .d (.sl (C2).length ((flat sC (Q)).take ((C2).length * 1)))] (bI true) := by
          rw [flat_take sC_len, u4]; exact ok16 _ (by omega)
        have kS2 : Go.Am.Pure Try.prog 16 [slS (D), .d (.sl (D).length ((flat sC (P)).take ((D).length * 1)))] (bI true) := by
          rw [flat_take sC_len, t4]; exact ok16 _ (by omega)
        refine W.loop (fun k fr σ => σ = s5 ⟨n0, l1, e0, j1⟩ (R) (F) (P) (Q) (C2) (D) ++ [.var [.d (nI 2), .d (nI (m : Int)), .d (sD s)], .var [.d (nI p.id), .d (nI p.fr), .d (nI p.to), .d (sD p.tx)], .var [.d (nI qi), .d (nI qf), .d (nI 0), .d (sD qx)]] ∧ ((k = 2 ∧ fr = [(0, slF trC T), (3, .ptr 1 0), (4, .ptr 2 0), (5, .ptr 3 0), (6, .ptr 4 0), (11, .d (nI i)), (141, .d (nI 0))]) ∨ (k = 1 ∧ fr = [(0, slF trC T), (3, .ptr 1 0), (4, .ptr 2 0), (5, .ptr 3 0), (6, .ptr 4 0), (11, .d (nI i)), (141, .d (nI 1))]) ∨ (k = 0 ∧ fr = [(0, slF trC T), (3, .ptr 1 0), (4, .ptr 2 0), (5, .ptr 3 0), (6, .ptr 4 0), (11, .d (nI i)), (141, .d (nI 2))]))) 2
          (Start.of [0, 3, 4, 5, 6, 11, 141] [] (by simp)) ⟨rfl, .inl ⟨rfl, rfl⟩⟩ ?_
        rintro k fr σ ⟨rfl, (⟨rfl, rfl⟩ | ⟨rfl, rfl⟩ | ⟨rfl, rfl⟩)⟩
        · refine W.ite_t rfl ?_
          repeat (first | refine W.ite_t rfl ?_ | refine W.ite_f rfl ?_ | refine W.need (by decide) ?_ | refine W.ite_f u1 ?_ | refine W.need ⟨Int.natCast_nonneg _, Int.ofNat_le.2 u3⟩ ?_ | refine W.pure kS1 rfl rfl ?_)
          exact W.ret ⟨_, _, _, by decide, Trim.of [0, 3, 4, 5, 6, 11, 141] [0, 1, 2, 3, 4, 5, 6, 7, 8] (by decide) (by show ∀ i ∈ [0, 1, 2, 3, 4, 5, 6, 7, 8], i < 9; simp) keep9, rfl, .inr (.inl ⟨rfl, rfl⟩)⟩
        · refine W.ite_t rfl ?_
          repeat (first | refine W.ite_t rfl ?_ | refine W.ite_f rfl ?_ | refine W.need (by decide) ?_ | refine W.ite_f t1 ?_ | refine W.need ⟨Int.natCast_nonneg _, Int.ofNat_le.2 t3⟩ ?_ | refine W.pure kS2 rfl rfl ?_)
          exact W.ret ⟨_, _, _, by decide, Trim.of [0, 3, 4, 5, 6, 11, 141] [0, 1, 2, 3, 4, 5, 6, 7, 8] (by decide) (by show ∀ i ∈ [0, 1, 2, 3, 4, 5, 6, 7, 8], i < 9; simp) keep9, rfl, .inr (.inr ⟨rfl, rfl⟩)⟩
        · refine W.ite_f rfl ?_
          refine W.ret ?_
          refine W.ret ⟨_, _, _, ?_, Trim.of [0, 3, 4, 5, 6, 11] [0, 1, 2, 3, 4, 5] (by decide) (by show ∀ i ∈ [0, 1, 2, 3, 4, 5], i < 9; simp) keep6, i + 1, ⟨n0, l1, e0, j1⟩, ⟨R, F, P, Q, C2, D⟩, M, N, ?_, rfl, by omega, rfl, hI', hGd, by dsimp only; omega, ⟨by dsimp only; omega, by dsimp only; omega⟩, by dsimp only; omega, by dsimp only; omega⟩
          · omega
          · rw [← g4]; rfl
    by_cases k3 : kk = 3
    · subst k3
      repeat (first | refine W.ite_t rfl ?_ | refine W.ite_f rfl ?_ | refine W.need (by decide) ?_)
      refine W.callT [0, 1] (Bg.ok11 ⟨n0, l, e0, j0⟩ (by dsimp only; omega)) (by decide) rfl rfl rfl rfl ?_
      rintro v σ ⟨rfl, rfl⟩
      by_cases hl0 : l.length = 0
      · have d0 : ((l.length : Int) == 0) = true := by rw [hl0]; rfl
        repeat (first | refine W.ite_t rfl ?_ | refine W.ite_f rfl ?_ | refine W.need (by decide) ?_ | refine W.ite_t d0 ?_)
        refine W.ret ⟨_, _, _, ?_, Trim.of [0, 3, 4, 5, 6, 11] [0, 1, 2, 3, 4, 5] (by decide) (by show ∀ i ∈ [0, 1, 2, 3, 4, 5], i < 7; simp) keep6, i + 1, ⟨n0, l, e0, j0⟩, ⟨E, F, P, Q, C, D⟩, M, N, ?_, rfl, by omega, rfl, hI, hG, by dsimp only; omega, ⟨by dsimp only; omega, by dsimp only; omega⟩, by dsimp only; omega, by dsimp only; omega⟩
        · omega
        · rw [← g4]; rfl
      have d0 : ((l.length : Int) == 0) = false := by rw [beq_eq_false_iff_ne]; omega
      by_cases hneg : nn < 0
      · have d1 : decide (nn < 0) = true := decide_eq_true hneg
        repeat (first | refine W.ite_t rfl ?_ | refine W.ite_f rfl ?_ | refine W.need (by decide) ?_ | refine W.ite_f d0 ?_ | refine W.ite_t d1 ?_)
        refine W.ret ⟨_, _, _, ?_, Trim.of [0, 3, 4, 5, 6, 11] [0, 1, 2, 3, 4, 5] (by decide) (by show ∀ i ∈ [0, 1, 2, 3, 4, 5], i < 7; simp) keep6, i + 1, ⟨n0, l, e0, j0⟩, ⟨E, F, P, Q, C, D⟩, M, N, ?_, rfl, by omega, rfl, hI, hG, by dsimp only; omega, ⟨by dsimp only; omega, by dsimp only; omega⟩, by dsimp only; omega, by dsimp only; omega⟩
        · omega
        · rw [← g4]; rfl
      have d1 : decide (nn < 0) = false := decide_eq_false hneg
      obtain ⟨m, rfl⟩ := Int.eq_ofNat_of_zero_le (show 0 ≤ nn by omega)
      have hne : (l.length : Int) ≠ 0 := by omega
      have hmod : ((m : Int)).tmod (l.length : Int) = ((m % l.length : Nat) : Int) := rfl
      have hlt : m % l.length < l.length := Nat.mod_lt _ (by omega)
      obtain ⟨p, hp⟩ : ∃ p, l[m % l.length]? = some p := ⟨_, List.getElem?_eq_getElem hlt⟩
      have hpm := List.mem_of_getElem? hp
      obtain ⟨kq, q, hq1, hq2, hq3⟩ := ix_find hpm
      have hqg := hG q hq3
      have hkl := (List.getElem?_eq_some_iff.1 hq2).1
      have hix : (0 : Int) ≤ ((m : Int)).tmod (l.length : Int) ∧ ((m : Int)).tmod (l.length : Int) < (l.length : Int) ∧ flat Bg.pkC l ≠ [] := by rw [hmod]; exact ix_ok Bg.pkC_len (by decide) hlt
      have hel : Elem (flat Bg.pkC l) [.int .i64, .int .i64, .int .i64, .str] ((((m : Int)).tmod (l.length : Int)).toNat * 4) 4 (Bg.pkC p) := by rw [hmod]; exact Elem.all Bg.pkC_len hp _ rfl ⟨rfl, rfl, rfl, rfl, True.intro⟩ rfl
      repeat (first | refine W.ite_t rfl ?_ | refine W.ite_f rfl ?_ | refine W.need (by decide) ?_ | refine W.ite_f d0 ?_ | refine W.ite_f d1 ?_ | refine W.need hne ?_ | refine W.need hix ?_)
      refine W.ld hel ?_
      repeat (first | refine W.ite_t rfl ?_ | refine W.ite_f rfl ?_ | refine W.need (by decide) ?_)
      refine W.callT [0, 1] (Bg.ok9S ⟨n0, l, e0, j0⟩ p.id (by dsimp only; omega) hq1 hq2) (by decide) rfl rfl rfl rfl ?_
      rintro v σ ⟨rfl, rfl⟩
      have hdl : (l.eraseIdx kq).length ≤ l.length := List.length_eraseIdx_le ..
      have hGd := gd_del hG kq
      generalize Bg.pkC Bg.pk0 ++ j0 = j1
      generalize l.eraseIdx kq = l1 at *
      repeat (first | refine W.ite_t rfl ?_ | refine W.ite_f rfl ?_ | refine W.need (by decide) ?_)
      have hI' : Inv ⟨E, F, P, Q, C, D⟩ M N := hI
      obtain ⟨t1, t3, t4, t5⟩ := Half.tail hI'.f
      obtain ⟨u1, u3, u4, u5⟩ := Half.tail hI'.g
      dsimp only at t1 t3 t4 t5 u1 u3 u4 u5
      have kS1 : Go.Am.Pure Try.prog 16 [slS (C), .d (.sl (C).length ((flat sC (Q)).take ((C).length * 1)))] (bI true) := by
        rw [flat_take sC_len, u4]; exact ok16 _ (by omega)
      have kS2 : Go.Am.Pure Try.prog 16 [slS (D), .d (.sl (D).length ((flat sC (P)).take ((D).length * 1)))] (bI true) := by
        rw [flat_take sC_len, t4]; exact ok16 _ (by omega)
      refine W.loop (fun k fr σ => σ = s5 ⟨n0, l1, e0, j1⟩ (E) (F) (P) (Q) (C) (D) ++ [.var [.d (nI 3), .d (nI (m : Int)), .d (sD s)], .var [.d (nI p.id), .d (nI p.fr), .d (nI p.to), .d (sD p.tx)], .var [.d (nI q.id), .d (nI q.fr), .d (nI q.to), .d (sD q.tx)]] ∧ ((k = 2 ∧ fr = [(0, slF trC T), (3, .ptr 1 0), (4, .ptr 2 0), (5, .ptr 3 0), (6, .ptr 4 0), (11, .d (nI i)), (141, .d (nI 0))]) ∨ (k = 1 ∧ fr = [(0, slF trC T), (3, .ptr 1 0), (4, .ptr 2 0), (5, .ptr 3 0), (6, .ptr 4 0), (11, .d (nI i)), (141, .d (nI 1))]) ∨ (k = 0 ∧ fr = [(0, slF trC T), (3, .ptr 1 0), (4, .ptr 2 0), (5, .ptr 3 0), (6, .ptr 4 0), (11, .d (nI i)), (141, .d (nI 2))]))) 2
        (Start.of [0, 3, 4, 5, 6, 11, 141] [] (by simp)) ⟨rfl, .inl ⟨rfl, rfl⟩⟩ ?_
      rintro k fr σ ⟨rfl, (⟨rfl, rfl⟩ | ⟨rfl, rfl⟩ | ⟨rfl, rfl⟩)⟩
      · refine W.ite_t rfl ?_
        repeat (first | refine W.ite_t rfl ?_ | refine W.ite_f rfl ?_ | refine W.need (by decide) ?_ | refine W.ite_f u1 ?_ | refine W.need ⟨Int.natCast_nonneg _, Int.ofNat_le.2 u3⟩ ?_ | refine W.pure kS1 rfl rfl ?_)
        exact W.ret ⟨_, _, _, by decide, Trim.of [0, 3, 4, 5, 6, 11, 141] [0, 1, 2, 3, 4, 5, 6, 7, 8] (by decide) (by show ∀ i ∈ [0, 1, 2, 3, 4, 5, 6, 7, 8], i < 9; simp) keep9, rfl, .inr (.inl ⟨rfl, rfl⟩)⟩
      · refine W.ite_t rfl ?_
        repeat (first | refine W.ite_t rfl ?_ | refine W.ite_f rfl ?_ | refine W.need (by decide) ?_ | refine W.ite_f t1 ?_ | refine W.need ⟨Int.natCast_nonneg _, Int.ofNat_le.2 t3⟩ ?_ | refine W.pure kS2 rfl rfl ?_)
        exact W.ret ⟨_, _, _, by decide, Trim.of [0, 3, 4, 5, 6, 11, 141] [0, 1, 2, 3, 4, 5, 6, 7, 8] (by decide) (by show ∀ i ∈ [0, 1, 2, 3, 4, 5, 6, 7, 8], i < 9; simp) keep9, rfl, .inr (.inr ⟨rfl, rfl⟩)⟩
      · refine W.ite_f rfl ?_
        refine W.ret ?_
        refine W.ret ⟨_, _, _, ?_, Trim.of [0, 3, 4, 5, 6, 11] [0, 1, 2, 3, 4, 5] (by decide) (by show ∀ i ∈ [0, 1, 2, 3, 4, 5], i < 9; simp) keep6, i + 1, ⟨n0, l1, e0, j1⟩, ⟨E, F, P, Q, C, D⟩, M, N, ?_, rfl, by omega, rfl, hI', hGd, by dsimp only; omega, ⟨by dsimp only; omega, by dsimp only; omega⟩, by dsimp only; omega, by dsimp only; omega⟩
        · omega
        · rw [← g4]; rfl
    by_cases k4 : kk = 4
    · subst k4
      repeat (first | refine W.ite_t rfl ?_ | refine W.ite_f rfl ?_ | refine W.need (by decide) ?_)
      refine W.callT [0, 1] (Bg.ok11 ⟨n0, l, e0, j0⟩ (by dsimp only; omega)) (by decide) rfl rfl rfl rfl ?_
      rintro v σ ⟨rfl, rfl⟩
      by_cases hl0 : l.length = 0
      · have d0 : ((l.length : Int) == 0) = true := by rw [hl0]; rfl
        repeat (first | refine W.ite_t rfl ?_ | refine W.ite_f rfl ?_ | refine W.need (by decide) ?_ | refine W.ite_t d0 ?_)
        refine W.ret ⟨_, _, _, ?_, Trim.of [0, 3, 4, 5, 6, 11] [0, 1, 2, 3, 4, 5] (by decide) (by show ∀ i ∈ [0, 1, 2, 3, 4, 5], i < 7; simp) keep6, i + 1, ⟨n0, l, e0, j0⟩, ⟨E, F, P, Q, C, D⟩, M, N, ?_, rfl, by omega, rfl, hI, hG, by dsimp only; omega, ⟨by dsimp only; omega, by dsimp only; omega⟩, by dsimp only; omega, by dsimp only; omega⟩
        · omega
        · rw [← g4]; rfl
      have d0 : ((l.length : Int) == 0) = false := by rw [beq_eq_false_iff_ne]; omega
      by_cases hneg : nn < 0
      · have d1 : decide (nn < 0) = true := decide_eq_true hneg
        repeat (first | refine W.ite_t rfl ?_ | refine W.ite_f rfl ?_ | refine W.need (by decide) ?_ | refine W.ite_f d0 ?_ | refine W.ite_t d1 ?_)
        refine W.ret ⟨_, _, _, ?_, Trim.of [0, 3, 4, 5, 6, 11] [0, 1, 2, 3, 4, 5] (by decide) (by show ∀ i ∈ [0, 1, 2, 3, 4, 5], i < 7; simp) keep6, i + 1, ⟨n0, l, e0, j0⟩, ⟨E, F, P, Q, C, D⟩, M, N, ?_, rfl, by omega, rfl, hI, hG, by dsimp only; omega, ⟨by dsimp only; omega, by dsimp only; omega⟩, by dsimp only; omega, by dsimp only; omega⟩
        · omega
        · rw [← g4]; rfl
      have d1 : decide (nn < 0) = false := decide_eq_false hneg
      obtain ⟨m, rfl⟩ := Int.eq_ofNat_of_zero_le (show 0 ≤ nn by omega)
      have hne : (l.length : Int) ≠ 0 := by omega
      have hmod : ((m : Int)).tmod (l.length : Int) = ((m % l.length : Nat) : Int) := rfl
      have hlt : m % l.length < l.length := Nat.mod_lt _ (by omega)
      obtain ⟨p, hp⟩ : ∃ p, l[m % l.length]? = some p := ⟨_, List.getElem?_eq_getElem hlt⟩
      have hpm := List.mem_of_getElem? hp
      obtain ⟨kq, q, hq1, hq2, hq3⟩ := ix_find hpm
      have hqg := hG q hq3
      have hkl := (List.getElem?_eq_some_iff.1 hq2).1
      have hix : (0 : Int) ≤ ((m : Int)).tmod (l.length : Int) ∧ ((m : Int)).tmod (l.length : Int) < (l.length : Int) ∧ flat Bg.pkC l ≠ [] := by rw [hmod]; exact ix_ok Bg.pkC_len (by decide) hlt
      have hel : Elem (flat Bg.pkC l) [.int .i64, .int .i64, .int .i64, .str] ((((m : Int)).tmod (l.length : Int)).toNat * 4) 4 (Bg.pkC p) := by rw [hmod]; exact Elem.all Bg.pkC_len hp _ rfl ⟨rfl, rfl, rfl, rfl, True.intro⟩ rfl
      repeat (first | refine W.ite_t rfl ?_ | refine W.ite_f rfl ?_ | refine W.need (by decide) ?_ | refine W.ite_f d0 ?_ | refine W.ite_f d1 ?_ | refine W.need hne ?_ | refine W.need hix ?_)
      refine W.ld hel ?_
      repeat (first | refine W.ite_t rfl ?_ | refine W.ite_f rfl ?_ | refine W.need (by decide) ?_)
      refine W.callT [0, 1] (Bg.ok12K ⟨n0, l, e0, j0⟩ p.id hq1 hq2 (hqg.size hI) (by dsimp only; omega) ⟨by dsimp only; omega, by dsimp only; omega⟩) (by decide) rfl rfl rfl rfl ?_
      rintro v σ ⟨rfl, e1, j1, rfl⟩
      repeat (first | refine W.ite_t rfl ?_ | refine W.ite_f rfl ?_ | refine W.need (by decide) ?_)
      refine W.ret ⟨_, _, _, ?_, Trim.of [0, 3, 4, 5, 6, 11] [0, 1, 2, 3, 4, 5] (by decide) (by show ∀ i ∈ [0, 1, 2, 3, 4, 5], i < 8; simp) keep6, i + 1, ⟨n0 + 1, l ++ [⟨n0 + 1, q.fr, q.to, q.tx⟩], e1, j1⟩, ⟨E, F, P, Q, C, D⟩, M, N, ?_, rfl, by omega, rfl, hI, (fun r hr => by
            rcases List.mem_append.1 hr with hr | hr
            · exact hG r hr
            · rw [List.mem_singleton.1 hr]; exact hqg), by simp only [List.length_append, List.length_singleton]; omega, ⟨by dsimp only; omega, by dsimp only; omega⟩, by dsimp only; omega, by dsimp only; omega⟩
      · omega
      · rw [← g4]; rfl
    by_cases k5 : kk = 5
    · subst k5
      repeat (first | refine W.ite_t rfl ?_ | refine W.ite_f rfl ?_ | refine W.need (by decide) ?_ | refine W.need (show (0 : Int) ≤ IntKind.i64.wrap (5 - 5) ∧ IntKind.i64.wrap (5 - 5) < ((2 : Nat) : Int) from by decide) ?_)
      refine W.pure (ok14 s 50) rfl rfl ?_
      have hsz := cut_size s 50
      generalize cut s 50 = y at *
      repeat (first | refine W.ite_t rfl ?_ | refine W.ite_f rfl ?_ | refine W.need (by decide) ?_ | refine W.need (show (0 : Int) ≤ IntKind.i64.wrap (5 - 5) ∧ IntKind.i64.wrap (5 - 5) < ((2 : Nat) : Int) from by decide) ?_)
      have kp := okA15 E F hEok y
      rcases push_small E hsz with hp | ⟨hq64, hp⟩
      · rw [hp, errC_ne (show (4 : Int) ≠ 0 by decide)] at kp
        dsimp only at kp
        refine W.callT [2] kp (by decide) rfl rfl rfl rfl ?_
        rintro v σ ⟨rfl, rfl⟩
        repeat (first | refine W.ite_t rfl ?_ | refine W.ite_f rfl ?_ | refine W.need (by decide) ?_ | refine W.need (show (0 : Int) ≤ IntKind.i64.wrap (5 - 5) ∧ IntKind.i64.wrap (5 - 5) < ((2 : Nat) : Int) from by decide) ?_)
        have hI' : Inv ⟨E, F, P, Q, C, D⟩ M N := hI
        obtain ⟨t1, t3, t4, t5⟩ := Half.tail hI'.f
        obtain ⟨u1, u3, u4, u5⟩ := Half.tail hI'.g
        dsimp only at t1 t3 t4 t5 u1 u3 u4 u5
        have kS1 : Go.Am.Pure Try.prog 16 [slS (C), .d (.sl (C).length ((flat sC (Q)).take ((C).length * 1)))] (bI true) := by
          rw [flat_take sC_len, u4]; exact ok16 _ (by omega)
        have kS2 : Go.Am.Pure Try.prog 16 [slS (D), .d (.sl (D).length ((flat sC (P)).take ((D).length * 1)))] (bI true) := by
          rw [flat_take sC_len, t4]; exact ok16 _ (by omega)
        refine W.loop (fun k fr σ => σ = s5 ⟨n0, l, e0, j0⟩ (E) (F) (P) (Q) (C) (D) ++ [.var [.d (nI 5), .d (nI nn), .d (sD s)]] ∧ ((k = 2 ∧ fr = [(0, slF trC T), (3, .ptr 1 0), (4, .ptr 2 0), (5, .ptr 3 0), (6, .ptr 4 0), (11, .d (nI i)), (141, .d (nI 0))]) ∨ (k = 1 ∧ fr = [(0, slF trC T), (3, .ptr 1 0), (4, .ptr 2 0), (5, .ptr 3 0), (6, .ptr 4 0), (11, .d (nI i)), (141, .d (nI 1))]) ∨ (k = 0 ∧ fr = [(0, slF trC T), (3, .ptr 1 0), (4, .ptr 2 0), (5, .ptr 3 0), (6, .ptr 4 0), (11, .d (nI i)), (141, .d (nI 2))]))) 2
          (Start.of [0, 3, 4, 5, 6, 11, 141] [] (by simp)) ⟨rfl, .inl ⟨rfl, rfl⟩⟩ ?_
        rintro k fr σ ⟨rfl, (⟨rfl, rfl⟩ | ⟨rfl, rfl⟩ | ⟨rfl, rfl⟩)⟩
        · refine W.ite_t rfl ?_
          repeat (first | refine W.ite_t rfl ?_ | refine W.ite_f rfl ?_ | refine W.need (by decide) ?_ | refine W.ite_f u1 ?_ | refine W.need ⟨Int.natCast_nonneg _, Int.ofNat_le.2 u3⟩ ?_ | refine W.pure kS1 rfl rfl ?_)
          exact W.ret ⟨_, _, _, by decide, Trim.of [0, 3, 4, 5, 6, 11, 141] [0, 1, 2, 3, 4, 5, 6] (by decide) (by show ∀ i ∈ [0, 1, 2, 3, 4, 5, 6], i < 7; simp) keep7, rfl, .inr (.inl ⟨rfl, rfl⟩)⟩
        · refine W.ite_t rfl ?_
          repeat (first | refine W.ite_t rfl ?_ | refine W.ite_f rfl ?_ | refine W.need (by decide) ?_ | refine W.ite_f t1 ?_ | refine W.need ⟨Int.natCast_nonneg _, Int.ofNat_le.2 t3⟩ ?_ | refine W.pure kS2 rfl rfl ?_)
          exact W.ret ⟨_, _, _, by decide, Trim.of [0, 3, 4, 5, 6, 11, 141] [0, 1, 2, 3, 4, 5, 6] (by decide) (by show ∀ i ∈ [0, 1, 2, 3, 4, 5, 6], i < 7; simp) keep7, rfl, .inr (.inr ⟨rfl, rfl⟩)⟩
        · refine W.ite_f rfl ?_
          refine W.ret ?_
          refine W.ret ⟨_, _, _, ?_, Trim.of [0, 3, 4, 5, 6, 11] [0, 1, 2, 3, 4, 5] (by decide) (by show ∀ i ∈ [0, 1, 2, 3, 4, 5], i < 7; simp) keep6, i + 1, ⟨n0, l, e0, j0⟩, ⟨E, F, P, Q, C, D⟩, M, N, ?_, rfl, by omega, rfl, hI', hG, by dsimp only; omega, ⟨by dsimp only; omega, by dsimp only; omega⟩, by dsimp only; omega, by dsimp only; omega⟩
          · omega
          · rw [← g4]; rfl
      rw [hp, errC0] at kp
      dsimp only at kp
      refine W.callT [2] kp (by decide) rfl rfl rfl rfl ?_
      rintro v σ ⟨rfl, rfl⟩
      repeat (first | refine W.ite_t rfl ?_ | refine W.ite_f rfl ?_ | refine W.need (by decide) ?_ | refine W.need (show (0 : Int) ≤ IntKind.i64.wrap (5 - 5) ∧ IntKind.i64.wrap (5 - 5) < ((2 : Nat) : Int) from by decide) ?_)
      have a1 := flat_one sC_one P
      refine W.both (W.both ?_ ?_) ?_
      · refine W.alt_l ?_
        refine W.need ⟨rfl, rfl, by rw [sl_len]; simp, by first | omega | (dsimp only; omega), by first | omega | (dsimp only; omega), a1⟩ ?_
        refine W.need ⟨rfl, rfl, rfl, by first | omega | (dsimp only; omega), by first | omega | (dsimp only; omega), by intro c hc; obtain rfl := List.mem_singleton.1 hc; rfl⟩ ?_
        repeat (first | refine W.ite_t rfl ?_ | refine W.ite_f rfl ?_ | refine W.need (by decide) ?_ | refine W.need (show (0 : Int) ≤ IntKind.i64.wrap (5 - 5) ∧ IntKind.i64.wrap (5 - 5) < ((2 : Nat) : Int) from by decide) ?_)
        have hI' : Inv ⟨({ E with q := E.q ++ [y] }), F, (P ++ [y]), Q, C, D⟩ M N := ⟨hI.f.push y (by omega) (by dsimp only; omega), hI.g.recv (R' := { E with q := E.q ++ [y] }) rfl, by simp only [List.length_append, List.length_singleton]; omega, hI.qb⟩
        obtain ⟨t1, t3, t4, t5⟩ := Half.tail hI'.f
        obtain ⟨u1, u3, u4, u5⟩ := Half.tail hI'.g
        dsimp only at t1 t3 t4 t5 u1 u3 u4 u5
        have el : (P ++ [y]).length = (0 + P.length + 1) := by simp
        have er : ((([] ++ flat sC P) ++ [sD y]).take ((0 + P.length + 1) * 1)) = flat sC (P ++ [y]) := by
          have e := snoc2 P [y]
          exact (Go.Am.D.sl.inj e).2
        rw [el] at t1 t3
        have kS1 : Go.Am.Pure Try.prog 16 [slS C, .d (.sl C.length ((flat sC Q).take (C.length * 1)))] (bI true) := by
          rw [flat_take sC_len, u4]; exact ok16 _ (by omega)
        have kS2 : Go.Am.Pure Try.prog 16 [slS D, .d (.sl D.length (((([] ++ flat sC P) ++ [sD y]).take ((0 + P.length + 1) * 1)).take (D.length * 1)))] (bI true) := by
          rw [er, flat_take sC_len, t4]; exact ok16 _ (by omega)
        refine W.loop (fun k fr σ => σ = [Bg.rowS e0 l j0, .var [.d (nI n0), .row 0 e0 0 l.length], .var (lkC ({ E with q := E.q ++ [y] }) ++ lkC F), .var [.vec 7 (0 + P.length + 1), slS Q], prL C D, .var [.d (nI 1), .d (nI 1), .d (nI 2), .d (sD ⟨#[120]⟩)], .var [.d (nI 5), .d (nI nn), .d (sD s)], .vec 1 (0 + P.length + 1) (([] ++ flat sC P) ++ [sD y])] ∧ ((k = 2 ∧ fr = [(0, slF trC T), (3, .ptr 1 0), (4, .ptr 2 0), (5, .ptr 3 0), (6, .ptr 4 0), (11, .d (nI i)), (141, .d (nI 0))]) ∨ (k = 1 ∧ fr = [(0, slF trC T), (3, .ptr 1 0), (4, .ptr 2 0), (5, .ptr 3 0), (6, .ptr 4 0), (11, .d (nI i)), (141, .d (nI 1))]) ∨ (k = 0 ∧ fr = [(0, slF trC T), (3, .ptr 1 0), (4, .ptr 2 0), (5, .ptr 3 0), (6, .ptr 4 0), (11, .d (nI i)), (141, .d (nI 2))]))) 2
          (Start.of [0, 3, 4, 5, 6, 11, 141] [] (by simp)) ⟨rfl, .inl ⟨rfl, rfl⟩⟩ ?_
        rintro k fr σ ⟨rfl, (⟨rfl, rfl⟩ | ⟨rfl, rfl⟩ | ⟨rfl, rfl⟩)⟩
        · refine W.ite_t rfl ?_
          repeat (first | refine W.ite_t rfl ?_ | refine W.ite_f rfl ?_ | refine W.need (by decide) ?_ | refine W.ite_f u1 ?_ | refine W.need ⟨Int.natCast_nonneg _, Int.ofNat_le.2 u3⟩ ?_ | refine W.pure kS1 rfl rfl ?_)
          exact W.ret ⟨_, _, _, by decide, Trim.of [0, 3, 4, 5, 6, 11, 141] [0, 1, 2, 3, 4, 5, 6, 7] (by decide) (by show ∀ i ∈ [0, 1, 2, 3, 4, 5, 6, 7], i < 8; simp) keep8, rfl, .inr (.inl ⟨rfl, rfl⟩)⟩
        · refine W.ite_t rfl ?_
          repeat (first | refine W.ite_t rfl ?_ | refine W.ite_f rfl ?_ | refine W.need (by decide) ?_ | refine W.ite_f t1 ?_ | refine W.need ⟨Int.natCast_nonneg _, Int.ofNat_le.2 t3⟩ ?_ | refine W.pure kS2 rfl rfl ?_)
          exact W.ret ⟨_, _, _, by decide, Trim.of [0, 3, 4, 5, 6, 11, 141] [0, 1, 2, 3, 4, 5, 6, 7] (by decide) (by show ∀ i ∈ [0, 1, 2, 3, 4, 5, 6, 7], i < 8; simp) keep8, rfl, .inr (.inr ⟨rfl, rfl⟩)⟩
        · refine W.ite_f rfl ?_
          refine W.ret ?_
          refine W.ret ⟨_, _, _, ?_, Trim.of [0, 3, 4, 5, 6, 11] [0, 1, 2, 3, 4, 5] (by decide) (by show ∀ i ∈ [0, 1, 2, 3, 4, 5], i < 8; simp) keep6, i + 1, ⟨n0, l, e0, j0⟩, ⟨({ E with q := E.q ++ [y] }), F, (P ++ [y]), Q, C, D⟩, M, N, ?_, ?_, by omega, rfl, hI', hG, by dsimp only; omega, ⟨by dsimp only; omega, by dsimp only; omega⟩, by simp only [List.length_append, List.length_singleton]; omega, by dsimp only; omega⟩
          · omega
          · rw [← g4]; rfl
          · have e := snoc2 P [y]
            simp only [s5, prL, slS, slF]
            rw [← e]
            rfl
      · refine W.need ⟨rfl, rfl, by rw [sl_len]; simp, by first | omega | (dsimp only; omega), by first | omega | (dsimp only; omega), a1⟩ ?_
        refine W.alt_l ?_
        refine W.need ⟨rfl, rfl, rfl, by first | omega | (dsimp only; omega), by first | omega | (dsimp only; omega), by intro c hc; obtain rfl := List.mem_singleton.1 hc; rfl⟩ ?_
        repeat (first | refine W.ite_t rfl ?_ | refine W.ite_f rfl ?_ | refine W.need (by decide) ?_ | refine W.need (show (0 : Int) ≤ IntKind.i64.wrap (5 - 5) ∧ IntKind.i64.wrap (5 - 5) < ((2 : Nat) : Int) from by decide) ?_)
        have hI' : Inv ⟨({ E with q := E.q ++ [y] }), F, (P ++ [y]), Q, C, D⟩ M N := ⟨hI.f.push y (by omega) (by dsimp only; omega), hI.g.recv (R' := { E with q := E.q ++ [y] }) rfl, by simp only [List.length_append, List.length_singleton]; omega, hI.qb⟩
        obtain ⟨t1, t3, t4, t5⟩ := Half.tail hI'.f
        obtain ⟨u1, u3, u4, u5⟩ := Half.tail hI'.g
        dsimp only at t1 t3 t4 t5 u1 u3 u4 u5
        have el : (P ++ [y]).length = (0 + P.length + 1) := by simp
        have er : ((([] ++ flat sC P) ++ [sD y]).take ((0 + P.length + 1) * 1)) = flat sC (P ++ [y]) := by
          have e := snoc2 P [y]
          exact (Go.Am.D.sl.inj e).2
        rw [el] at t1 t3
        have kS1 : Go.Am.Pure Try.prog 16 [slS C, .d (.sl C.length ((flat sC Q).take (C.length * 1)))] (bI true) := by
          rw [flat_take sC_len, u4]; exact ok16 _ (by omega)
        have kS2 : Go.Am.Pure Try.prog 16 [slS D, .d (.sl D.length (((([] ++ flat sC P) ++ [sD y]).take ((0 + P.length + 1) * 1)).take (D.length * 1)))] (bI true) := by
          rw [er, flat_take sC_len, t4]; exact ok16 _ (by omega)
        refine W.loop (fun k fr σ => σ = [Bg.rowS e0 l j0, .var [.d (nI n0), .row 0 e0 0 l.length], .var (lkC ({ E with q := E.q ++ [y] }) ++ lkC F), .var [.vec 7 (0 + P.length + 1), slS Q], prL C D, .var [.d (nI 1), .d (nI 1), .d (nI 2), .d (sD ⟨#[120]⟩)], .var [.d (nI 5), .d (nI nn), .d (sD s)], .vec 1 (0 + P.length + 1) (([] ++ flat sC P) ++ [sD y])] ∧ ((k = 2 ∧ fr = [(0, slF trC T), (3, .ptr 1 0), (4, .ptr 2 0), (5, .ptr 3 0), (6, .ptr 4 0), (11, .d (nI i)), (141, .d (nI 0))]) ∨ (k = 1 ∧ fr = [(0, slF trC T), (3, .ptr 1 0), (4, .ptr 2 0), (5, .ptr 3 0), (6, .ptr 4 0), (11, .d (nI i)), (141, .d (nI 1))]) ∨ (k = 0 ∧ fr = [(0, slF trC T), (3, .ptr 1 0), (4, .ptr 2 0), (5, .ptr 3 0), (6, .ptr 4 0), (11, .d (nI i)), (141, .d (nI 2))]))) 2
          (Start.of [0, 3, 4, 5, 6, 11, 141] [] (by simp)) ⟨rfl, .inl ⟨rfl, rfl⟩⟩ ?_
        rintro k fr σ ⟨rfl, (⟨rfl, rfl⟩ | ⟨rfl, rfl⟩ | ⟨rfl, rfl⟩)⟩
        · refine W.ite_t rfl ?_
          repeat (first | refine W.ite_t rfl ?_ | refine W.ite_f rfl ?_ | refine W.need (by decide) ?_ | refine W.ite_f u1 ?_ | refine W.need ⟨Int.natCast_nonneg _, Int.ofNat_le.2 u3⟩ ?_ | refine W.pure kS1 rfl rfl ?_)
          exact W.ret ⟨_, _, _, by decide, Trim.of [0, 3, 4, 5, 6, 11, 141] [0, 1, 2, 3, 4, 5, 6, 7] (by decide) (by show ∀ i ∈ [0, 1, 2, 3, 4, 5, 6, 7], i < 8; simp) keep8, rfl, .inr (.inl ⟨rfl, rfl⟩)⟩
        · refine W.ite_t rfl ?_
          repeat (first | refine W.ite_t rfl ?_ | refine W.ite_f rfl ?_ | refine W.need (by decide) ?_ | refine W.ite_f t1 ?_ | refine W.need ⟨Int.natCast_nonneg _, Int.ofNat_le.2 t3⟩ ?_ | refine W.pure kS2 rfl rfl ?_)
          exact W.ret ⟨_, _, _, by decide, Trim.of [0, 3, 4, 5, 6, 11, 141] [0, 1, 2, 3, 4, 5, 6, 7] (by decide) (by show ∀ i ∈ [0, 1, 2, 3, 4, 5, 6, 7], i < 8; simp) keep8, rfl, .inr (.inr ⟨rfl, rfl⟩)⟩
        · refine W.ite_f rfl ?_
          refine W.ret ?_
          refine W.ret ⟨_, _, _, ?_, Trim.of [0, 3, 4, 5, 6, 11] [0, 1, 2, 3, 4, 5] (by decide) (by show ∀ i ∈ [0, 1, 2, 3, 4, 5], i < 8; simp) keep6, i + 1, ⟨n0, l, e0, j0⟩, ⟨({ E with q := E.q ++ [y] }), F, (P ++ [y]), Q, C, D⟩, M, N, ?_, ?_, by omega, rfl, hI', hG, by dsimp only; omega, ⟨by dsimp only; omega, by dsimp only; omega⟩, by simp only [List.length_append, List.length_singleton]; omega, by dsimp only; omega⟩
          · omega
          · rw [← g4]; rfl
          · have e := snoc2 P [y]
            simp only [s5, prL, slS, slF]
            rw [← e]
            rfl
      · refine W.alt_l ?_
        refine W.need ⟨rfl, rfl, by rw [sl_len]; simp, by first | omega | (dsimp only; omega), by first | omega | (dsimp only; omega), a1⟩ ?_
        refine W.need ⟨rfl, rfl, rfl, by first | omega | (dsimp only; omega), by first | omega | (dsimp only; omega), by intro c hc; obtain rfl := List.mem_singleton.1 hc; rfl⟩ ?_
        repeat (first | refine W.ite_t rfl ?_ | refine W.ite_f rfl ?_ | refine W.need (by decide) ?_ | refine W.need (show (0 : Int) ≤ IntKind.i64.wrap (5 - 5) ∧ IntKind.i64.wrap (5 - 5) < ((2 : Nat) : Int) from by decide) ?_)
        have hI' : Inv ⟨({ E with q := E.q ++ [y] }), F, (P ++ [y]), Q, C, D⟩ M N := ⟨hI.f.push y (by omega) (by dsimp only; omega), hI.g.recv (R' := { E with q := E.q ++ [y] }) rfl, by simp only [List.length_append, List.length_singleton]; omega, hI.qb⟩
        obtain ⟨t1, t3, t4, t5⟩ := Half.tail hI'.f
        obtain ⟨u1, u3, u4, u5⟩ := Half.tail hI'.g
        dsimp only at t1 t3 t4 t5 u1 u3 u4 u5
        have el : (P ++ [y]).length = (0 + P.length + 1) := by simp
        have er : ((([] ++ flat sC P) ++ [sD y]).take ((0 + P.length + 1) * 1)) = flat sC (P ++ [y]) := by
          have e := snoc2 P [y]
          exact (Go.Am.D.sl.inj e).2
        rw [el] at t1 t3
        have kS1 : Go.Am.Pure Try.prog 16 [slS C, .d (.sl C.length ((flat sC Q).take (C.length * 1)))] (bI true) := by
          rw [flat_take sC_len, u4]; exact ok16 _ (by omega)
        have kS2 : Go.Am.Pure Try.prog 16 [slS D, .d (.sl D.length (((([] ++ flat sC P) ++ [sD y]).take ((0 + P.length + 1) * 1)).take (D.length * 1)))] (bI true) := by
          rw [er, flat_take sC_len, t4]; exact ok16 _ (by omega)
        refine W.loop (fun k fr σ => σ = [Bg.rowS e0 l j0, .var [.d (nI n0), .row 0 e0 0 l.length], .var (lkC ({ E with q := E.q ++ [y] }) ++ lkC F), .var [.vec 7 (0 + P.length + 1), slS Q], prL C D, .var [.d (nI 1), .d (nI 1), .d (nI 2), .d (sD ⟨#[120]⟩)], .var [.d (nI 5), .d (nI nn), .d (sD s)], .vec 1 (0 + P.length + 1) (([] ++ flat sC P) ++ [sD y])] ∧ ((k = 2 ∧ fr = [(0, slF trC T), (3, .ptr 1 0), (4, .ptr 2 0), (5, .ptr 3 0), (6, .ptr 4 0), (11, .d (nI i)), (141, .d (nI 0))]) ∨ (k = 1 ∧ fr = [(0, slF trC T), (3, .ptr 1 0), (4, .ptr 2 0), (5, .ptr 3 0), (6, .ptr 4 0), (11, .d (nI i)), (141, .d (nI 1))]) ∨ (k = 0 ∧ fr = [(0, slF trC T), (3, .ptr 1 0), (4, .ptr 2 0), (5, .ptr 3 0), (6, .ptr 4 0), (11, .d (nI i)), (141, .d (nI 2))]))) 2
          (Start.of [0, 3, 4, 5, 6, 11, 141] [] (by simp)) ⟨rfl, .inl ⟨rfl, rfl⟩⟩ ?_
        rintro k fr σ ⟨rfl, (⟨rfl, rfl⟩ | ⟨rfl, rfl⟩ | ⟨rfl, rfl⟩)⟩
        · refine W.ite_t rfl ?_
          repeat (first | refine W.ite_t rfl ?_ | refine W.ite_f rfl ?_ | refine W.need (by decide) ?_ | refine W.ite_f u1 ?_ | refine W.need ⟨Int.natCast_nonneg _, Int.ofNat_le.2 u3⟩ ?_ | refine W.pure kS1 rfl rfl ?_)
          exact W.ret ⟨_, _, _, by decide, Trim.of [0, 3, 4, 5, 6, 11, 141] [0, 1, 2, 3, 4, 5, 6, 7] (by decide) (by show ∀ i ∈ [0, 1, 2, 3, 4, 5, 6, 7], i < 8; simp) keep8, rfl, .inr (.inl ⟨rfl, rfl⟩)⟩
        · refine W.ite_t rfl ?_
          repeat (first | refine W.ite_t rfl ?_ | refine W.ite_f rfl ?_ | refine W.need (by decide) ?_ | refine W.ite_f t1 ?_ | refine W.need ⟨Int.natCast_nonneg _, Int.ofNat_le.2 t3⟩ ?_ | refine W.pure kS2 rfl rfl ?_)
          exact W.ret ⟨_, _, _, by decide, Trim.of [0, 3, 4, 5, 6, 11, 141] [0, 1, 2, 3, 4, 5, 6, 7] (by decide) (by show ∀ i ∈ [0, 1, 2, 3, 4, 5, 6, 7], i < 8; simp) keep8, rfl, .inr (.inr ⟨rfl, rfl⟩)⟩
        · refine W.ite_f rfl ?_
          refine W.ret ?_
          refine W.ret ⟨_, _, _, ?_, Trim.of [0, 3, 4, 5, 6, 11] [0, 1, 2, 3, 4, 5] (by decide) (by show ∀ i ∈ [0, 1, 2, 3, 4, 5], i < 8; simp) keep6, i + 1, ⟨n0, l, e0, j0⟩, ⟨({ E with q := E.q ++ [y] }), F, (P ++ [y]), Q, C, D⟩, M, N, ?_, ?_, by omega, rfl, hI', hG, by dsimp only; omega, ⟨by dsimp only; omega, by dsimp only; omega⟩, by simp only [List.length_append, List.length_singleton]; omega, by dsimp only; omega⟩
          · omega
          · rw [← g4]; rfl
          · have e := snoc2 P [y]
            simp only [s5, prL, slS, slF]
            rw [← e]
            rfl
    by_cases k6 : kk = 6
    · subst k6
      repeat (first | refine W.ite_t rfl ?_ | refine W.ite_f rfl ?_ | refine W.need (by decide) ?_ | refine W.need (show (0 : Int) ≤ IntKind.i64.wrap (6 - 5) ∧ IntKind.i64.wrap (6 - 5) < ((2 : Nat) : Int) from by decide) ?_)
      refine W.pure (ok14 s 50) rfl rfl ?_
      have hsz := cut_size s 50
      generalize cut s 50 = y at *
      repeat (first | refine W.ite_t rfl ?_ | refine W.ite_f rfl ?_ | refine W.need (by decide) ?_ | refine W.need (show (0 : Int) ≤ IntKind.i64.wrap (6 - 5) ∧ IntKind.i64.wrap (6 - 5) < ((2 : Nat) : Int) from by decide) ?_)
      have kp := okB15 F E hFok y
      rcases push_small F hsz with hp | ⟨hq64, hp⟩
      · rw [hp, errC_ne (show (4 : Int) ≠ 0 by decide)] at kp
        dsimp only at kp
        refine W.callT [2] kp (by decide) rfl rfl rfl rfl ?_
        rintro v σ ⟨rfl, rfl⟩
        repeat (first | refine W.ite_t rfl ?_ | refine W.ite_f rfl ?_ | refine W.need (by decide) ?_ | refine W.need (show (0 : Int) ≤ IntKind.i64.wrap (6 - 5) ∧ IntKind.i64.wrap (6 - 5) < ((2 : Nat) : Int) from by decide) ?_)
        have hI' : Inv ⟨E, F, P, Q, C, D⟩ M N := hI
        obtain ⟨t1, t3, t4, t5⟩ := Half.tail hI'.f
        obtain ⟨u1, u3, u4, u5⟩ := Half.tail hI'.g
        dsimp only at t1 t3 t4 t5 u1 u3 u4 u5
        have kS1 : Go.Am.Pure Try.prog 16 [slS (C), .d (.sl (C).length ((flat sC (Q)).take ((C).length * 1)))] (bI true) := by
          rw [flat_take sC_len, u4]; exact ok16 _ (by omega)
        have kS2 : Go.Am.Pure Try.prog 16 [slS (D), .d (.sl (D).length ((flat sC (P)).take ((D).length * 1)))] (bI true) := by
          rw [flat_take sC_len, t4]; exact ok16 _ (by omega)
        refine W.loop (fun k fr σ => σ = s5 ⟨n0, l, e0, j0⟩ (E) (F) (P) (Q) (C) (D) ++ [.var [.d (nI 6), .d (nI nn), .d (sD s)]] ∧ ((k = 2 ∧ fr = [(0, slF trC T), (3, .ptr 1 0), (4, .ptr 2 0), (5, .ptr 3 0), (6, .ptr 4 0), (11, .d (nI i)), (141, .d (nI 0))]) ∨ (k = 1 ∧ fr = [(0, slF trC T), (3, .ptr 1 0), (4, .ptr 2 0), (5, .ptr 3 0), (6, .ptr 4 0), (11, .d (nI i)), (141, .d (nI 1))]) ∨ (k = 0 ∧ fr = [(0, slF trC T), (3, .ptr 1 0), (4, .ptr 2 0), (5, .ptr 3 0), (6, .ptr 4 0), (11, .d (nI i)), (141, .d (nI 2))]))) 2
          (Start.of [0, 3, 4, 5, 6, 11, 141] [] (by simp)) ⟨rfl, .inl ⟨rfl, rfl⟩⟩ ?_
        rintro k fr σ ⟨rfl, (⟨rfl, rfl⟩ | ⟨rfl, rfl⟩ | ⟨rfl, rfl⟩)⟩
        · refine W.ite_t rfl ?_
          repeat (first | refine W.ite_t rfl ?_ | refine W.ite_f rfl ?_ | refine W.need (by decide) ?_ | refine W.ite_f u1 ?_ | refine W.need ⟨Int.natCast_nonneg _, Int.ofNat_le.2 u3⟩ ?_ | refine W.pure kS1 rfl rfl ?_)
          exact W.ret ⟨_, _, _, by decide, Trim.of [0, 3, 4, 5, 6, 11, 141] [0, 1, 2, 3, 4, 5, 6] (by decide) (by show ∀ i ∈ [0, 1, 2, 3, 4, 5, 6], i < 7; simp) keep7, rfl, .inr (.inl ⟨rfl, rfl⟩)⟩
        · refine W.ite_t rfl ?_
          repeat (first | refine W.ite_t rfl ?_ | refine W.ite_f rfl ?_ | refine W.need (by decide) ?_ | refine W.ite_f t1 ?_ | refine W.need ⟨Int.natCast_nonneg _, Int.ofNat_le.2 t3⟩ ?_ | refine W.pure kS2 rfl rfl ?_)
          exact W.ret ⟨_, _, _, by decide, Trim.of [0, 3, 4, 5, 6, 11, 141] [0, 1, 2, 3, 4, 5, 6] (by decide) (by show ∀ i ∈ [0, 1, 2, 3, 4, 5, 6], i < 7; simp) keep7, rfl, .inr (.inr ⟨rfl, rfl⟩)⟩
        · refine W.ite_f rfl ?_
          refine W.ret ?_
          refine W.ret ⟨_, _, _, ?_, Trim.of [0, 3, 4, 5, 6, 11] [0, 1, 2, 3, 4, 5] (by decide) (by show ∀ i ∈ [0, 1, 2, 3, 4, 5], i < 7; simp) keep6, i + 1, ⟨n0, l, e0, j0⟩, ⟨E, F, P, Q, C, D⟩, M, N, ?_, rfl, by omega, rfl, hI', hG, by dsimp only; omega, ⟨by dsimp only; omega, by dsimp only; omega⟩, by dsimp only; omega, by dsimp only; omega⟩
          · omega
          · rw [← g4]; rfl
      rw [hp, errC0] at kp
      dsimp only at kp
      refine W.callT [2] kp (by decide) rfl rfl rfl rfl ?_
      rintro v σ ⟨rfl, rfl⟩
      repeat (first | refine W.ite_t rfl ?_ | refine W.ite_f rfl ?_ | refine W.need (by decide) ?_ | refine W.need (show (0 : Int) ≤ IntKind.i64.wrap (6 - 5) ∧ IntKind.i64.wrap (6 - 5) < ((2 : Nat) : Int) from by decide) ?_)
      have a1 := flat_one sC_one Q
      refine W.both (W.both ?_ ?_) ?_
      · refine W.alt_l ?_
        refine W.need ⟨rfl, rfl, by rw [sl_len]; simp, by first | omega | (dsimp only; omega), by first | omega | (dsimp only; omega), a1⟩ ?_
        refine W.need ⟨rfl, rfl, rfl, by first | omega | (dsimp only; omega), by first | omega | (dsimp only; omega), by intro c hc; obtain rfl := List.mem_singleton.1 hc; rfl⟩ ?_
        repeat (first | refine W.ite_t rfl ?_ | refine W.ite_f rfl ?_ | refine W.need (by decide) ?_ | refine W.need (show (0 : Int) ≤ IntKind.i64.wrap (6 - 5) ∧ IntKind.i64.wrap (6 - 5) < ((2 : Nat) : Int) from by decide) ?_)
        have hI' : Inv ⟨E, ({ F with q := F.q ++ [y] }), P, (Q ++ [y]), C, D⟩ M N := ⟨hI.f.recv (R' := { F with q := F.q ++ [y] }) rfl, hI.g.push y (by omega) (by dsimp only; omega), hI.qa, by simp only [List.length_append, List.length_singleton]; omega⟩
        obtain ⟨t1, t3, t4, t5⟩ := Half.tail hI'.f
        obtain ⟨u1, u3, u4, u5⟩ := Half.tail hI'.g
        dsimp only at t1 t3 t4 t5 u1 u3 u4 u5
        have el : (Q ++ [y]).length = (0 + Q.length + 1) := by simp
        have er : ((([] ++ flat sC Q) ++ [sD y]).take ((0 + Q.length + 1) * 1)) = flat sC (Q ++ [y]) := by
          have e := snoc2 Q [y]
          exact (Go.Am.D.sl.inj e).2
        rw [el] at u1 u3
        have kS1 : Go.Am.Pure Try.prog 16 [slS D, .d (.sl D.length ((flat sC P).take (D.length * 1)))] (bI true) := by
          rw [flat_take sC_len, t4]; exact ok16 _ (by omega)
        have kS2 : Go.Am.Pure Try.prog 16 [slS C, .d (.sl C.length (((([] ++ flat sC Q) ++ [sD y]).take ((0 + Q.length + 1) * 1)).take (C.length * 1)))] (bI true) := by
          rw [er, flat_take sC_len, u4]; exact ok16 _ (by omega)
        refine W.loop (fun k fr σ => σ = [Bg.rowS e0 l j0, .var [.d (nI n0), .row 0 e0 0 l.length], .var (lkC E ++ lkC ({ F with q := F.q ++ [y] })), .var [slS P, .vec 7 (0 + Q.length + 1)], prL C D, .var [.d (nI 1), .d (nI 1), .d (nI 2), .d (sD ⟨#[120]⟩)], .var [.d (nI 6), .d (nI nn), .d (sD s)], .vec 1 (0 + Q.length + 1) (([] ++ flat sC Q) ++ [sD y])] ∧ ((k = 2 ∧ fr = [(0, slF trC T), (3, .ptr 1 0), (4, .ptr 2 0), (5, .ptr 3 0), (6, .ptr 4 0), (11, .d (nI i)), (141, .d (nI 0))]) ∨ (k = 1 ∧ fr = [(0, slF trC T), (3, .ptr 1 0), (4, .ptr 2 0), (5, .ptr 3 0), (6, .ptr 4 0), (11, .d (nI i)), (141, .d (nI 1))]) ∨ (k = 0 ∧ fr = [(0, slF trC T), (3, .ptr 1 0), (4, .ptr 2 0), (5, .ptr 3 0), (6, .ptr 4 0), (11, .d (nI i)), (141, .d (nI 2))]))) 2
          (Start.of [0, 3, 4, 5, 6, 11, 141] [] (by simp)) ⟨rfl, .inl ⟨rfl, rfl⟩⟩ ?_
        rintro k fr σ ⟨rfl, (⟨rfl, rfl⟩ | ⟨rfl, rfl⟩ | ⟨rfl, rfl⟩)⟩
        · refine W.ite_t rfl ?_
          repeat (first | refine W.ite_t rfl ?_ | refine W.ite_f rfl ?_ | refine W.need (by decide) ?_ | refine W.ite_f u1 ?_ | refine W.need ⟨Int.natCast_nonneg _, Int.ofNat_le.2 u3⟩ ?_ | refine W.pure kS2 rfl rfl ?_)
          exact W.ret ⟨_, _, _, by decide, Trim.of [0, 3, 4, 5, 6, 11, 141] [0, 1, 2, 3, 4, 5, 6, 7] (by decide) (by show ∀ i ∈ [0, 1, 2, 3, 4, 5, 6, 7], i < 8; simp) keep8, rfl, .inr (.inl ⟨rfl, rfl⟩)⟩
        · refine W.ite_t rfl ?_
          repeat (first | refine W.ite_t rfl ?_ | refine W.ite_f rfl ?_ | refine W.need (by decide) ?_ | refine W.ite_f t1 ?_ | refine W.need ⟨Int.natCast_nonneg _, Int.ofNat_le.2 t3⟩ ?_ | refine W.pure kS1 rfl rfl ?_)
          exact W.ret ⟨_, _, _, by decide, Trim.of [0, 3, 4, 5, 6, 11, 141] [0, 1, 2, 3, 4, 5, 6, 7] (by decide) (by show ∀ i ∈ [0, 1, 2, 3, 4, 5, 6, 7], i < 8; simp) keep8, rfl, .inr (.inr ⟨rfl, rfl⟩)⟩
        · refine W.ite_f rfl ?_
          refine W.ret ?_
          refine W.ret ⟨_, _, _, ?_, Trim.of [0, 3, 4, 5, 6, 11] [0, 1, 2, 3, 4, 5] (by decide) (by show ∀ i ∈ [0, 1, 2, 3, 4, 5], i < 8; simp) keep6, i + 1, ⟨n0, l, e0, j0⟩, ⟨E, ({ F with q := F.q ++ [y] }), P, (Q ++ [y]), C, D⟩, M, N, ?_, ?_, by omega, rfl, hI', hG, by dsimp only; omega, ⟨by dsimp only; omega, by dsimp only; omega⟩, by dsimp only; omega, by simp only [List.length_append, List.length_singleton]; omega⟩
          · omega
          · rw [← g4]; rfl
          · have e := snoc2 Q [y]
            simp only [s5, prL, slS, slF]
            rw [← e]
            rfl
      · refine W.need ⟨rfl, rfl, by rw [sl_len]; simp, by first | omega | (dsimp only; omega), by first | omega | (dsimp only; omega), a1⟩ ?_
        refine W.alt_l ?_
        refine W.need ⟨rfl, rfl, rfl, by first | omega | (dsimp only; omega), by first | omega | (dsimp only; omega), by intro c hc; obtain rfl := List.mem_singleton.1 hc; rfl⟩ ?_
        repeat (first | refine W.ite_t rfl ?_ | refine W.ite_f rfl ?_ | refine W.need (by decide) ?_ | refine W.need (show (0 : Int) ≤ IntKind.i64.wrap (6 - 5) ∧ IntKind.i64.wrap (6 - 5) < ((2 : Nat) : Int) from by decide) ?_)
        have hI' : Inv ⟨E, ({ F with q := F.q ++ [y] }), P, (Q ++ [y]), C, D⟩ M N := ⟨hI.f.recv (R' := { F with q := F.q ++ [y] }) rfl, hI.g.push y (by omega) (by dsimp only; omega), hI.qa, by simp only [List.length_append, List.length_singleton]; omega⟩
        obtain ⟨t1, t3, t4, t5⟩ := Half.tail hI'.f
        obtain ⟨u1, u3, u4, u5⟩ := Half.tail hI'.g
        dsimp only at t1 t3 t4 t5 u1 u3 u4 u5
        have el : (Q ++ [y]).length = (0 + Q.length + 1) := by simp
        have er : ((([] ++ flat sC Q) ++ [sD y]).take ((0 + Q.length + 1) * 1)) = flat sC (Q ++ [y]) := by
          have e := snoc2 Q [y]
          exact (Go.Am.D.sl.inj e).2
        rw [el] at u1 u3
        have kS1 : Go.Am.Pure Try.prog 16 [slS D, .d (.sl D.length ((flat sC P).take (D.length * 1)))] (bI true) := by
          rw [flat_take sC_len, t4]; exact ok16 _ (by omega)
        have kS2 : Go.Am.Pure Try.prog 16 [slS C, .d (.sl C.length (((([] ++ flat sC Q) ++ [sD y]).take ((0 + Q.length + 1) * 1)).take (C.length * 1)))] (bI true) := by
          rw [er, flat_take sC_len, u4]; exact ok16 _ (by omega)
        refine W.loop (fun k fr σ => σ = [Bg.rowS e0 l j0, .var [.d (nI n0), .row 0 e0 0 l.length], .var (lkC E ++ lkC ({ F with q := F.q ++ [y] })), .var [slS P, .vec 7 (0 + Q.length + 1)], prL C D, .var [.d (nI 1), .d (nI 1), .d (nI 2), .d (sD ⟨#[120]⟩)], .var [.d (nI 6), .d (nI nn), .d (sD s)], .vec 1 (0 + Q.length + 1) (([] ++ flat sC Q) ++ [sD y])] ∧ ((k = 2 ∧ fr = [(0, slF trC T), (3, .ptr 1 0), (4, .ptr 2 0), (5, .ptr 3 0), (6, .ptr 4 0), (11, .d (nI i)), (141, .d (nI 0))]) ∨ (k = 1 ∧ fr = [(0, slF trC T), (3, .ptr 1 0), (4, .ptr 2 0), (5, .ptr 3 0), (6, .ptr 4 0), (11, .d (nI i)), (141, .d (nI 1))]) ∨ (k = 0 ∧ fr = [(0, slF trC T), (3, .ptr 1 0), (4, .ptr 2 0), (5, .ptr 3 0), (6, .ptr 4 0), (11, .d (nI i)), (141, .d (nI 2))]))) 2
          (Start.of [0, 3, 4, 5, 6, 11, 141] [] (by simp)) ⟨rfl, .inl ⟨rfl, rfl⟩⟩ ?_
        rintro k fr σ ⟨rfl, (⟨rfl, rfl⟩ | ⟨rfl, rfl⟩ | ⟨rfl, rfl⟩)⟩
        · refine W.ite_t rfl ?_
          repeat (first | refine W.ite_t rfl ?_ | refine W.ite_f rfl ?_ | refine W.need (by decide) ?_ | refine W.ite_f u1 ?_ | refine W.need ⟨Int.natCast_nonneg _, Int.ofNat_le.2 u3⟩ ?_ | refine W.pure kS2 rfl rfl ?_)
          exact W.ret ⟨_, _, _, by decide, Trim.of [0, 3, 4, 5, 6, 11, 141] [0, 1, 2, 3, 4, 5, 6, 7] (by decide) (by show ∀ i ∈ [0, 1, 2, 3, 4, 5, 6, 7], i < 8; simp) keep8, rfl, .inr (.inl ⟨rfl, rfl⟩)⟩
        · refine W.ite_t rfl ?_
          repeat (first | refine W.ite_t rfl ?_ | refine W.ite_f rfl ?_ | refine W.need (by decide) ?_ | refine W.ite_f t1 ?_ | refine W.need ⟨Int.natCast_nonneg _, Int.ofNat_le.2 t3⟩ ?_ | refine W.pure kS1 rfl rfl ?_)
          exact W.ret ⟨_, _, _, by decide, Trim.of [0, 3, 4, 5, 6, 11, 141] [0, 1, 2, 3, 4, 5, 6, 7] (by decide) (by show ∀ i ∈ [0, 1, 2, 3, 4, 5, 6, 7], i < 8; simp) keep8, rfl, .inr (.inr ⟨rfl, rfl⟩)⟩
        · refine W.ite_f rfl ?_
          refine W.ret ?_
          refine W.ret ⟨_, _, _, ?_, Trim.of [0, 3, 4, 5, 6, 11] [0, 1, 2, 3, 4, 5] (by decide) (by show ∀ i ∈ [0, 1, 2, 3, 4, 5], i < 8; simp) keep6, i + 1, ⟨n0, l, e0, j0⟩, ⟨E, ({ F with q := F.q ++ [y] }), P, (Q ++ [y]), C, D⟩, M, N, ?_, ?_, by omega, rfl, hI', hG, by dsimp only; omega, ⟨by dsimp only; omega, by dsimp only; omega⟩, by dsimp only; omega, by simp only [List.length_append, List.length_singleton]; omega⟩
          · omega
          · rw [← g4]; rfl
          · have e := snoc2 Q [y]
            simp only [s5, prL, slS, slF]
            rw [← e]
            rfl
      · refine W.alt_l ?_
        refine W.need ⟨rfl, rfl, by rw [sl_len]; simp, by first | omega | (dsimp only; omega), by first | omega | (dsimp only; omega), a1⟩ ?_
        refine W.need ⟨rfl, rfl, rfl, by first | omega | (dsimp only; omega), by first | omega | (dsimp only; omega), by intro c hc; obtain rfl := List.mem_singleton.1 hc; rfl⟩ ?_
        repeat (first | refine W.ite_t rfl ?_ | refine W.ite_f rfl ?_ | refine W.need (by decide) ?_ | refine W.need (show (0 : Int) ≤ IntKind.i64.wrap (6 - 5) ∧ IntKind.i64.wrap (6 - 5) < ((2 : Nat) : Int) from by decide) ?_)
        have hI' : Inv ⟨E, ({ F with q := F.q ++ [y] }), P, (Q ++ [y]), C, D⟩ M N := ⟨hI.f.recv (R' := { F with q := F.q ++ [y] }) rfl, hI.g.push y (by omega) (by dsimp only; omega), hI.qa, by simp only [List.length_append, List.length_singleton]; omega⟩
        obtain ⟨t1, t3, t4, t5⟩ := Half.tail hI'.f
        obtain ⟨u1, u3, u4, u5⟩ := Half.tail hI'.g
        dsimp only at t1 t3 t4 t5 u1 u3 u4 u5
        have el : (Q ++ [y]).length = (0 + Q.length + 1) := by simp
        have er : ((([] ++ flat sC Q) ++ [sD y]).take ((0 + Q.length + 1) * 1)) = flat sC (Q ++ [y]) := by
          have e := snoc2 Q [y]
          exact (Go.Am.D.sl.inj e).2
        rw [el] at u1 u3
        have kS1 : Go.Am.Pure Try.prog 16 [slS D, .d (.sl D.length ((flat sC P).take (D.length * 1)))] (bI true) := by
          rw [flat_take sC_len, t4]; exact ok16 _ (by omega)
        have kS2 : Go.Am.Pure Try.prog 16 [slS C, .d (.sl C.length (((([] ++ flat sC Q) ++ [sD y]).take ((0 + Q.length + 1) * 1)).take (C.length * 1)))] (bI true) := by
          rw [er, flat_take sC_len, u4]; exact ok16 _ (by omega)
        refine W.loop (fun k fr σ => σ = [Bg.rowS e0 l j0, .var [.d (nI n0), .row 0 e0 0 l.length], .var (lkC E ++ lkC ({ F with q := F.q ++ [y] })), .var [slS P, .vec 7 (0 + Q.length + 1)], prL C D, .var [.d (nI 1), .d (nI 1), .d (nI 2), .d (sD ⟨#[120]⟩)], .var [.d (nI 6), .d (nI nn), .d (sD s)], .vec 1 (0 + Q.length + 1) (([] ++ flat sC Q) ++ [sD y])] ∧ ((k = 2 ∧ fr = [(0, slF trC T), (3, .ptr 1 0), (4, .ptr 2 0), (5, .ptr 3 0), (6, .ptr 4 0), (11, .d (nI i)), (141, .d (nI 0))]) ∨ (k = 1 ∧ fr = [(0, slF trC T), (3, .ptr 1 0), (4, .ptr 2 0), (5, .ptr 3 0), (6, .ptr 4 0), (11, .d (nI i)), (141, .d (nI 1))]) ∨ (k = 0 ∧ fr = [(0, slF trC T), (3, .ptr 1 0), (4, .ptr 2 0), (5, .ptr 3 0), (6, .ptr 4 0), (11, .d (nI i)), (141, .d (nI 2))]))) 2
          (Start.of [0, 3, 4, 5, 6, 11, 141] [] (by simp)) ⟨rfl, .inl ⟨rfl, rfl⟩⟩ ?_
        rintro k fr σ ⟨rfl, (⟨rfl, rfl⟩ | ⟨rfl, rfl⟩ | ⟨rfl, rfl⟩)⟩
        · refine W.ite_t rfl ?_
          repeat (first | refine W.ite_t rfl ?_ | refine W.ite_f rfl ?_ | refine W.need (by decide) ?_ | refine W.ite_f u1 ?_ | refine W.need ⟨Int.natCast_nonneg _, Int.ofNat_le.2 u3⟩ ?_ | refine W.pure kS2 rfl rfl ?_)
          exact W.ret ⟨_, _, _, by decide, Trim.of [0, 3, 4, 5, 6, 11, 141] [0, 1, 2, 3, 4, 5, 6, 7] (by decide) (by show ∀ i ∈ [0, 1, 2, 3, 4, 5, 6, 7], i < 8; simp) keep8, rfl, .inr (.inl ⟨rfl, rfl⟩)⟩
        · refine W.ite_t rfl ?_
          repeat (first | refine W.ite_t rfl ?_ | refine W.ite_f rfl ?_ | refine W.need (by decide) ?_ | refine W.ite_f t1 ?_ | refine W.need ⟨Int.natCast_nonneg _, Int.ofNat_le.2 t3⟩ ?_ | refine W.pure kS1 rfl rfl ?_)
          exact W.ret ⟨_, _, _, by decide, Trim.of [0, 3, 4, 5, 6, 11, 141] [0, 1, 2, 3, 4, 5, 6, 7] (by decide) (by show ∀ i ∈ [0, 1, 2, 3, 4, 5, 6, 7], i < 8; simp) keep8, rfl, .inr (.inr ⟨rfl, rfl⟩)⟩
        · refine W.ite_f rfl ?_
          refine W.ret ?_
          refine W.ret ⟨_, _, _, ?_, Trim.of [0, 3, 4, 5, 6, 11] [0, 1, 2, 3, 4, 5] (by decide) (by show ∀ i ∈ [0, 1, 2, 3, 4, 5], i < 8; simp) keep6, i + 1, ⟨n0, l, e0, j0⟩, ⟨E, ({ F with q := F.q ++ [y] }), P, (Q ++ [y]), C, D⟩, M, N, ?_, ?_, by omega, rfl, hI', hG, by dsimp only; omega, ⟨by dsimp only; omega, by dsimp only; omega⟩, by dsimp only; omega, by simp only [List.length_append, List.length_singleton]; omega⟩
          · omega
          · rw [← g4]; rfl
          · have e := snoc2 Q [y]
            simp only [s5, prL, slS, slF]
            rw [← e]
            rfl
    have e1 : (kk == 1) = false := by rw [beq_eq_false_iff_ne]; exact k1
    have e2 : (kk == 2) = false := by rw [beq_eq_false_iff_ne]; exact k2
    have e3 : (kk == 3) = false := by rw [beq_eq_false_iff_ne]; exact k3
    have e4 : (kk == 4) = false := by rw [beq_eq_false_iff_ne]; exact k4
    have e5 : (kk == 5) = false := by rw [beq_eq_false_iff_ne]; exact k5
    have e6 : (kk == 6) = false := by rw [beq_eq_false_iff_ne]; exact k6
    repeat (first | refine W.ite_t rfl ?_ | refine W.ite_f rfl ?_ | refine W.need (by decide) ?_ | refine W.ite_f e1 ?_ | refine W.ite_f e2 ?_ | refine W.ite_f e3 ?_ | refine W.ite_f e4 ?_ | refine W.ite_f e5 ?_ | refine W.ite_f e6 ?_)
    have hI' : Inv ⟨E, F, P, Q, C, D⟩ M N := hI
    obtain ⟨t1, t3, t4, t5⟩ := Half.tail hI'.f
    obtain ⟨u1, u3, u4, u5⟩ := Half.tail hI'.g
    dsimp only at t1 t3 t4 t5 u1 u3 u4 u5
    have kS1 : Go.Am.Pure Try.prog 16 [slS (C), .d (.sl (C).length ((flat sC (Q)).take ((C).length * 1)))] (bI true) := by
      rw [flat_take sC_len, u4]; exact ok16 _ (by omega)
    have kS2 : Go.Am.Pure Try.prog 16 [slS (D), .d (.sl (D).length ((flat sC (P)).take ((D).length * 1)))] (bI true) := by
      rw [flat_take sC_len, t4]; exact ok16 _ (by omega)
    refine W.loop (fun k fr σ => σ = s5 ⟨n0, l, e0, j0⟩ (E) (F) (P) (Q) (C) (D) ++ [.var [.d (nI kk), .d (nI nn), .d (sD s)]] ∧ ((k = 2 ∧ fr = [(0, slF trC T), (3, .ptr 1 0), (4, .ptr 2 0), (5, .ptr 3 0), (6, .ptr 4 0), (11, .d (nI i)), (141, .d (nI 0))]) ∨ (k = 1 ∧ fr = [(0, slF trC T), (3, .ptr 1 0), (4, .ptr 2 0), (5, .ptr 3 0), (6, .ptr 4 0), (11, .d (nI i)), (141, .d (nI 1))]) ∨ (k = 0 ∧ fr = [(0, slF trC T), (3, .ptr 1 0), (4, .ptr 2 0), (5, .ptr 3 0), (6, .ptr 4 0), (11, .d (nI i)), (141, .d (nI 2))]))) 2
      (Start.of [0, 3, 4, 5, 6, 11, 141] [] (by simp)) ⟨rfl, .inl ⟨rfl, rfl⟩⟩ ?_
    rintro k fr σ ⟨rfl, (⟨rfl, rfl⟩ | ⟨rfl, rfl⟩ | ⟨rfl, rfl⟩)⟩
    · refine W.ite_t rfl ?_
      repeat (first | refine W.ite_t rfl ?_ | refine W.ite_f rfl ?_ | refine W.need (by decide) ?_ | refine W.ite_f u1 ?_ | refine W.need ⟨Int.natCast_nonneg _, Int.ofNat_le.2 u3⟩ ?_ | refine W.pure kS1 rfl rfl ?_)
      exact W.ret ⟨_, _, _, by decide, Trim.of [0, 3, 4, 5, 6, 11, 141] [0, 1, 2, 3, 4, 5, 6] (by decide) (by show ∀ i ∈ [0, 1, 2, 3, 4, 5, 6], i < 7; simp) keep7, rfl, .inr (.inl ⟨rfl, rfl⟩)⟩
    · refine W.ite_t rfl ?_
      repeat (first | refine W.ite_t rfl ?_ | refine W.ite_f rfl ?_ | refine W.need (by decide) ?_ | refine W.ite_f t1 ?_ | refine W.need ⟨Int.natCast_nonneg _, Int.ofNat_le.2 t3⟩ ?_ | refine W.pure kS2 rfl rfl ?_)
      exact W.ret ⟨_, _, _, by decide, Trim.of [0, 3, 4, 5, 6, 11, 141] [0, 1, 2, 3, 4, 5, 6] (by decide) (by show ∀ i ∈ [0, 1, 2, 3, 4, 5, 6], i < 7; simp) keep7, rfl, .inr (.inr ⟨rfl, rfl⟩)⟩
    · refine W.ite_f rfl ?_
      refine W.ret ?_
      refine W.ret ⟨_, _, _, ?_, Trim.of [0, 3, 4, 5, 6, 11] [0, 1, 2, 3, 4, 5] (by decide) (by show ∀ i ∈ [0, 1, 2, 3, 4, 5], i < 7; simp) keep6, i + 1, ⟨n0, l, e0, j0⟩, ⟨E, F, P, Q, C, D⟩, M, N, ?_, rfl, by omega, rfl, hI', hG, by dsimp only; omega, ⟨by dsimp only; omega, by dsimp only; omega⟩, by dsimp only; omega, by dsimp only; omega⟩
      · omega
      · rw [← g4]; rfl
  · have hF0 : Fin 0 ⟨E, F, P, Q, C, D⟩ M N l := Fin.start hI hG (by dsimp only; omega) (by dsimp only; omega)
    have hend : (decide ((i : Int) < (T.length : Int)) = false) ∨ (decide ((i : Int) < (T.length : Int)) = true ∧ decide ((i : Int) < 80) = false) := by
      by_cases h : i < T.length
      · exact .inr ⟨decide_eq_true (by omega), decide_eq_false (by omega)⟩
      · exact .inl (decide_eq_false (by omega))
    have hl9 : l.length ≤ 3000 := by omega
    have hn9 : 0 ≤ n0 ∧ n0 ≤ 2000 := by omega
    clear g4 hgo hP hQ hl hn
    rcases hend with c1 | ⟨c1, c2⟩
    · skip
      repeat (first | refine W.ite_t rfl ?_ | refine W.ite_f rfl ?_ | refine W.ite_f c1 ?_)
      refine W.ret ?_
      refine W.loop (fun k fr σ => ∃ (i : Nat) (b : Bg.B) (s : Ds) (M N : List ByteArray), fr = [(0, slF trC T), (3, .ptr 1 0), (4, .ptr 2 0), (5, .ptr 3 0), (6, .ptr 4 0), (19, .d (nI i))] ∧ σ = s5 b s.a s.b s.p s.q s.c s.d ∧ i ≤ 60 ∧ k = 60 - i ∧ Fin i s M N b.l ∧ b.l.length ≤ 3000 ∧ (0 ≤ b.n ∧ b.n ≤ 2000 + 16 * i)) 60
        (Start.of [0, 3, 4, 5, 6, 19] [] (by simp)) ⟨0, ⟨n0, l, e0, j0⟩, ⟨E, F, P, Q, C, D⟩, M, N, rfl, rfl, by omega, rfl, hF0, hl9, ⟨hn9.1, by have := hn9.2; dsimp only; omega⟩⟩ ?_
      clear hI hG hEok hFok hF0 hl9 hn9 hi
      rintro k fr σ ⟨i, ⟨n0, l, e0, j0⟩, ⟨E, F, P, Q, C, D⟩, M, N, rfl, rfl, hi, rfl, hFin, hl, hn⟩
      dsimp only at hl hn hFin
      by_cases hgo : i < 60
      · have c1 : decide ((i : Int) < 60) = true := decide_eq_true (by omega)
        have g4 : IntKind.i64.wrap ((i : Int) + 1) = ((i + 1 : Nat) : Int) := by rw [wrap64 (by omega) (by omega)]; rfl
        refine W.ite_t c1 ?_
        have hI := hFin.inv
        have hnx := hFin.next n0
        obtain ⟨hEok, hFok⟩ := hI.ok
        dsimp only at hEok hFok
        have z1 := packets8 E
        have z2 := packets8 F
        have hI1 := snt_ok hI
        have hG1 : ∀ p ∈ l ++ sent n0 ⟨E, F, P, Q, C, D⟩, gd (M ++ packets E) (N ++ packets F) p := fun p hp => by
          rcases List.mem_append.1 hp with hp | hp
          · exact (hFin.gd p hp).left
          · exact gd_sent p hp
        have hLl : (l ++ sent n0 ⟨E, F, P, Q, C, D⟩).length ≤ 3016 := by have := sent_len n0 ⟨E, F, P, Q, C, D⟩; rw [List.length_append]; omega
        have kSend := ok10 ⟨n0, l, e0, j0⟩ E F hEok hFok (by dsimp only; omega) ⟨by dsimp only; omega, by dsimp only; omega⟩
        dsimp only at kSend
        rw [List.append_assoc, show lbl 0 1 n0 (packets E) ++ lbl 1 0 (n0 + (packets E).length) (packets F) = sent n0 ⟨E, F, P, Q, C, D⟩ from rfl] at kSend
        refine W.callT [0, 1, 2] kSend (by decide) rfl rfl rfl rfl ?_
        rintro v σ ⟨rfl, e1, j1, rfl⟩
        generalize (l ++ sent n0 ⟨E, F, P, Q, C, D⟩) = L at *
        have hn2 : 0 ≤ n0 + (packets E).length + (packets F).length ∧ n0 + (packets E).length + (packets F).length ≤ 2000 + 16 * (i + 1 : Nat) := ⟨by omega, by omega⟩
        generalize n0 + (packets E).length + (packets F).length = n2 at *
        refine W.callT [0, 1] (Bg.ok11 ⟨n2, L, e1, j1⟩ (by dsimp only; omega)) (by decide) rfl rfl rfl rfl ?_
        rintro v σ ⟨rfl, rfl⟩
        repeat (first | refine W.ite_t rfl ?_ | refine W.ite_f rfl ?_ | refine W.need (by decide) ?_)
        refine W.loop (fun k fr σ => ∃ (m e : Nat) (j : List Go.Am.D) (s : Ds), fr = [(0, slF trC T), (3, .ptr 1 0), (4, .ptr 2 0), (5, .ptr 3 0), (6, .ptr 4 0), (19, .d (nI i)), (176, slF Bg.pkC L), (177, .d (nI L.length)), (178, .d (nI m))] ∧ σ = s5 ⟨n2, L.drop m, e, j⟩ s.a s.b s.p s.q s.c s.d ∧ m ≤ L.length ∧ k = L.length - m ∧ s = (L.take m).foldl arr (snt ⟨E, F, P, Q, C, D⟩) ∧ Inv s (M ++ packets E) (N ++ packets F)) L.length
          (Start.of [0, 3, 4, 5, 6, 19, 176, 177, 178] [] (by simp)) ⟨0, e1, j1, snt ⟨E, F, P, Q, C, D⟩, rfl, rfl, by omega, rfl, rfl, hI1⟩ ?_
        rintro k fr σ ⟨m, e, j, s, rfl, rfl, hm, rfl, hs, hIs⟩
        refine W.ite (fun c2 => ?_) (fun c2 => ?_)
        · have hml : m < L.length := by have := of_decide_eq_true c2; omega
          obtain ⟨p, hp⟩ : ∃ p, L[m]? = some p := ⟨_, List.getElem?_eq_getElem hml⟩
          have hpg := hG1 p (List.mem_of_getElem? hp)
          have g6 : IntKind.i64.wrap ((m : Int) + 1) = ((m + 1 : Nat) : Int) := by rw [wrap64 (by omega) (by omega)]; rfl
          have hdr : L.drop m = p :: L.drop (m + 1) := Bg.drop_pk hp
          have hs2 : arr s p = (L.take (m + 1)).foldl arr (snt ⟨E, F, P, Q, C, D⟩) := by
            rw [hs, take_next hp, List.foldl_append]; rfl
          have hI2 := (arr_ok hIs hpg).1
          have hel : Elem (flat Bg.pkC L) [.int .i64, .int .i64, .int .i64, .str] (m * 4) 4 (Bg.pkC p) := Elem.all Bg.pkC_len hp _ rfl ⟨rfl, rfl, rfl, rfl, True.intro⟩ rfl
          have hdl : (L.drop m).length ≤ 1000000 := by rw [List.length_drop]; omega
          have kT := Bg.ok9S ⟨n2, L.drop m, e, j⟩ p.id hdl (i := 0) (p := p) (by dsimp only; rw [hdr]; show Bg.ixD _ (p :: _) 0 = _; unfold Bg.ixD; rw [if_pos (beq_self_eq_true _)]) (by dsimp only; rw [hdr]; rfl)
          dsimp only at kT
          rw [show (L.drop m).eraseIdx 0 = L.drop (m + 1) by rw [hdr]; rfl] at kT
          refine W.need (ix_ok Bg.pkC_len (by decide) hml) ?_
          refine W.ld hel ?_
          repeat (first | refine W.ite_t rfl ?_ | refine W.ite_f rfl ?_ | refine W.need (by decide) ?_)
          refine W.callT [0, 1] kT (by decide) rfl rfl rfl rfl ?_
          rintro v σ ⟨rfl, rfl⟩
          repeat (first | refine W.ite_t rfl ?_ | refine W.ite_f rfl ?_ | refine W.need (by decide) ?_)
          generalize Bg.pkC Bg.pk0 ++ j = j2
          obtain ⟨hsa, hsb⟩ := hIs.ok
          obtain ⟨E1, F1, P1, Q1, C1, D1⟩ := s
          obtain ⟨qi, qf, qt, qx⟩ := p
          have hsz := hpg.size hIs
          dsimp only at hsa hsb hsz
          rcases hpg with ⟨ht, hx⟩ | ⟨ht, hx⟩
          · dsimp only at ht hx
            subst ht
            have htk := take_nil hIs.f hIs.g hx
            have hCl : D1.length ≤ 1000 := (Half.tail hIs.f).2.2.2
            have kA := ok13B E1 F1 hsb C1 D1 (by omega) qi qf qx (by omega) htk
            refine W.callT [2, 4] kA (by decide) rfl rfl rfl rfl ?_
            rintro v2 σ ⟨rfl, rfl⟩
            repeat (first | refine W.ite_t rfl ?_ | refine W.ite_f rfl ?_ | refine W.need (by decide) ?_)
            refine W.ret ⟨_, _, _, ?_, Trim.of [0, 3, 4, 5, 6, 19, 176, 177, 178] [0, 1, 2, 3, 4, 5] (by decide) (by show ∀ i ∈ [0, 1, 2, 3, 4, 5], i < 8; simp) keep6, m + 1, e, j2, arr ⟨E1, F1, P1, Q1, C1, D1⟩ ⟨qi, qf, 1, qx⟩, ?_, ?_, by omega, rfl, hs2, hI2⟩
            · omega
            · rw [← g6]; rfl
            · rfl
          · dsimp only at ht hx
            subst ht
            have htk := take_nil hIs.g hIs.f hx
            have hCl : C1.length ≤ 1000 := (Half.tail hIs.g).2.2.2
            have kA := ok13A E1 F1 hsa C1 D1 (by omega) qi qf qx (by omega) htk
            refine W.callT [2, 4] kA (by decide) rfl rfl rfl rfl ?_
            rintro v2 σ ⟨rfl, rfl⟩
            repeat (first | refine W.ite_t rfl ?_ | refine W.ite_f rfl ?_ | refine W.need (by decide) ?_)
            refine W.ret ⟨_, _, _, ?_, Trim.of [0, 3, 4, 5, 6, 19, 176, 177, 178] [0, 1, 2, 3, 4, 5] (by decide) (by show ∀ i ∈ [0, 1, 2, 3, 4, 5], i < 8; simp) keep6, m + 1, e, j2, arr ⟨E1, F1, P1, Q1, C1, D1⟩ ⟨qi, qf, 0, qx⟩, ?_, ?_, by omega, rfl, hs2, hI2⟩
            · omega
            · rw [← g6]; rfl
            · rfl
        · have hmL : m = L.length := by have := of_decide_eq_false c2; omega
          subst hmL
          rw [List.take_length] at hs
          rw [← hs] at hnx
          refine W.ret ?_
          refine W.ret ⟨_, _, _, ?_, Trim.of [0, 3, 4, 5, 6, 19] [0, 1, 2, 3, 4, 5] (by decide) (by show ∀ i ∈ [0, 1, 2, 3, 4, 5], i < 6; simp) keep6, i + 1, ⟨n2, L.drop L.length, e, j⟩, s, M ++ packets E, N ++ packets F, ?_, rfl, by omega, rfl, ?_, ?_, hn2⟩
          · omega
          · rw [← g4]; rfl
          · rw [List.drop_length]; exact hnx
          · rw [List.drop_length]; exact Nat.zero_le _
      · have hi6 : i = 60 := by omega
        subst hi6
        obtain ⟨f1, f2, f3, f4, f5, f6⟩ := hFin.done
        have hp9 := hFin.lp
        have hq9 := hFin.lq
        dsimp only at f1 f2 f3 f4 f5 f6 hp9 hq9
        subst f1 f2
        obtain ⟨Eq, Ea, Ec, Eo⟩ := E
        obtain ⟨Fq, Fa, Fc, Fo⟩ := F
        dsimp only at f3 f4 f5 f6
        subst f3 f4 f5 f6
        refine W.ite_f rfl ?_
        refine W.ret ?_
        refine W.need (by decide) ?_
        refine W.need (by decide) ?_
        refine W.pure (ok16 C (by omega)) rfl rfl ?_
        repeat (first | refine W.ite_t rfl ?_ | refine W.ite_f rfl ?_ | refine W.need (by decide) ?_)
        refine W.pure (ok16 D (by omega)) rfl rfl ?_
        repeat (first | refine W.ite_t rfl ?_ | refine W.ite_f rfl ?_ | refine W.need (by decide) ?_)
        refine W.callT [2] (okA6 ⟨[], Ea, Ec, false⟩ ⟨[], Fa, Fc, false⟩) (by decide) rfl rfl rfl rfl ?_
        rintro v σ ⟨rfl, rfl⟩
        repeat (first | refine W.ite_t rfl ?_ | refine W.ite_f rfl ?_ | refine W.need (by decide) ?_)
        refine W.callT [2] (okB6 ⟨[], Fa, Fc, false⟩ ⟨[], Ea, Ec, false⟩) (by decide) rfl rfl rfl rfl ?_
        rintro v σ ⟨rfl, rfl⟩
        repeat (first | refine W.ite_t rfl ?_ | refine W.ite_f rfl ?_ | refine W.need (by decide) ?_)
        exact W.ret (RetQ.pure rfl rfl)
    · skip
      repeat (first | refine W.ite_t rfl ?_ | refine W.ite_f rfl ?_ | refine W.ite_f c1 ?_ | refine W.ite_t c1 ?_ | refine W.ite_f c2 ?_)
      refine W.ret ?_
      refine W.loop (fun k fr σ => ∃ (i : Nat) (b : Bg.B) (s : Ds) (M N : List ByteArray), fr = [(0, slF trC T), (3, .ptr 1 0), (4, .ptr 2 0), (5, .ptr 3 0), (6, .ptr 4 0), (19, .d (nI i))] ∧ σ = s5 b s.a s.b s.p s.q s.c s.d ∧ i ≤ 60 ∧ k = 60 - i ∧ Fin i s M N b.l ∧ b.l.length ≤ 3000 ∧ (0 ≤ b.n ∧ b.n ≤ 2000 + 16 * i)) 60
        (Start.of [0, 3, 4, 5, 6, 19] [] (by simp)) ⟨0, ⟨n0, l, e0, j0⟩, ⟨E, F, P, Q, C, D⟩, M, N, rfl, rfl, by omega, rfl, hF0, hl9, ⟨hn9.1, by have := hn9.2; dsimp only; omega⟩⟩ ?_
      clear hI hG hEok hFok hF0 hl9 hn9 hi
      rintro k fr σ ⟨i, ⟨n0, l, e0, j0⟩, ⟨E, F, P, Q, C, D⟩, M, N, rfl, rfl, hi, rfl, hFin, hl, hn⟩
      dsimp only at hl hn hFin
      by_cases hgo : i < 60
      · have c1 : decide ((i : Int) < 60) = true := decide_eq_true (by omega)
        have g4 : IntKind.i64.wrap ((i : Int) + 1) = ((i + 1 : Nat) : Int) := by rw [wrap64 (by omega) (by omega)]; rfl
        refine W.ite_t c1 ?_
        have hI := hFin.inv
        have hnx := hFin.next n0
        obtain ⟨hEok, hFok⟩ := hI.ok
        dsimp only at hEok hFok
        have z1 := packets8 E
        have z2 := packets8 F
        have hI1 := snt_ok hI
        have hG1 : ∀ p ∈ l ++ sent n0 ⟨E, F, P, Q, C, D⟩, gd (M ++ packets E) (N ++ packets F) p := fun p hp => by
          rcases List.mem_append.1 hp with hp | hp
          · exact (hFin.gd p hp).left
          · exact gd_sent p hp
        have hLl : (l ++ sent n0 ⟨E, F, P, Q, C, D⟩).length ≤ 3016 := by have := sent_len n0 ⟨E, F, P, Q, C, D⟩; rw [List.length_append]; omega
        have kSend := ok10 ⟨n0, l, e0, j0⟩ E F hEok hFok (by dsimp only; omega) ⟨by dsimp only; omega, by dsimp only; omega⟩
        dsimp only at kSend
        rw [List.append_assoc, show lbl 0 1 n0 (packets E) ++ lbl 1 0 (n0 + (packets E).length) (packets F) = sent n0 ⟨E, F, P, Q, C, D⟩ from rfl] at kSend
        refine W.callT [0, 1, 2] kSend (by decide) rfl rfl rfl rfl ?_
        rintro v σ ⟨rfl, e1, j1, rfl⟩
        generalize (l ++ sent n0 ⟨E, F, P, Q, C, D⟩) = L at *
        have hn2 : 0 ≤ n0 + (packets E).length + (packets F).length ∧ n0 + (packets E).length + (packets F).length ≤ 2000 + 16 * (i + 1 : Nat) := ⟨by omega, by omega⟩
        generalize n0 + (packets E).length + (packets F).length = n2 at *
        refine W.callT [0, 1] (Bg.ok11 ⟨n2, L, e1, j1⟩ (by dsimp only; omega)) (by decide) rfl rfl rfl rfl ?_
        rintro v σ ⟨rfl, rfl⟩
        repeat (first | refine W.ite_t rfl ?_ | refine W.ite_f rfl ?_ | refine W.need (by decide) ?_)
        refine W.loop (fun k fr σ => ∃ (m e : Nat) (j : List Go.Am.D) (s : Ds), fr = [(0, slF trC T), (3, .ptr 1 0), (4, .ptr 2 0), (5, .ptr 3 0), (6, .ptr 4 0), (19, .d (nI i)), (176, slF Bg.pkC L), (177, .d (nI L.length)), (178, .d (nI m))] ∧ σ = s5 ⟨n2, L.drop m, e, j⟩ s.a s.b s.p s.q s.c s.d ∧ m ≤ L.length ∧ k = L.length - m ∧ s = (L.take m).foldl arr (snt ⟨E, F, P, Q, C, D⟩) ∧ Inv s (M ++ packets E) (N ++ packets F)) L.length
          (Start.of [0, 3, 4, 5, 6, 19, 176, 177, 178] [] (by simp)) ⟨0, e1, j1, snt ⟨E, F, P, Q, C, D⟩, rfl, rfl, by omega, rfl, rfl, hI1⟩ ?_
        rintro k fr σ ⟨m, e, j, s, rfl, rfl, hm, rfl, hs, hIs⟩
        refine W.ite (fun c2 => ?_) (fun c2 => ?_)
        · have hml : m < L.length := by have := of_decide_eq_true c2; omega
          obtain ⟨p, hp⟩ : ∃ p, L[m]? = some p := ⟨_, List.getElem?_eq_getElem hml⟩
          have hpg := hG1 p (List.mem_of_getElem? hp)
          have g6 : IntKind.i64.wrap ((m : Int) + 1) = ((m + 1 : Nat) : Int) := by rw [wrap64 (by omega) (by omega)]; rfl
          have hdr : L.drop m = p :: L.drop (m + 1) := Bg.drop_pk hp
          have hs2 : arr s p = (L.take (m + 1)).foldl arr (snt ⟨E, F, P, Q, C, D⟩) := by
            rw [hs, take_next hp, List.foldl_append]; rfl
          have hI2 := (arr_ok hIs hpg).1
          have hel : Elem (flat Bg.pkC L) [.int .i64, .int .i64, .int .i64, .str] (m * 4) 4 (Bg.pkC p) := Elem.all Bg.pkC_len hp _ rfl ⟨rfl, rfl, rfl, rfl, True.intro⟩ rfl
          have hdl : (L.drop m).length ≤ 1000000 := by rw [List.length_drop]; omega
          have kT := Bg.ok9S ⟨n2, L.drop m, e, j⟩ p.id hdl (i := 0) (p := p) (by dsimp only; rw [hdr]; show Bg.ixD _ (p :: _) 0 = _; unfold Bg.ixD; rw [if_pos (beq_self_eq_true _)]) (by dsimp only; rw [hdr]; rfl)
          dsimp only at kT
          rw [show (L.drop m).eraseIdx 0 = L.drop (m + 1) by rw [hdr]; rfl] at kT
          refine W.need (ix_ok Bg.pkC_len (by decide) hml) ?_
          refine W.ld hel ?_
          repeat (first | refine W.ite_t rfl ?_ | refine W.ite_f rfl ?_ | refine W.need (by decide) ?_)
          refine W.callT [0, 1] kT (by decide) rfl rfl rfl rfl ?_
          rintro v σ ⟨rfl, rfl⟩
          repeat (first | refine W.ite_t rfl ?_ | refine W.ite_f rfl ?_ | refine W.need (by decide) ?_)
          generalize Bg.pkC Bg.pk0 ++ j = j2
          obtain ⟨hsa, hsb⟩ := hIs.ok
          obtain ⟨E1, F1, P1, Q1, C1, D1⟩ := s
          obtain ⟨qi, qf, qt, qx⟩ := p
          have hsz := hpg.size hIs
          dsimp only at hsa hsb hsz
          rcases hpg with ⟨ht, hx⟩ | ⟨ht, hx⟩
          · dsimp only at ht hx
            subst ht
            have htk := take_nil hIs.f hIs.g hx
            have hCl : D1.length ≤ 1000 := (Half.tail hIs.f).2.2.2
            have kA := ok13B E1 F1 hsb C1 D1 (by omega) qi qf qx (by omega) htk
            refine W.callT [2, 4] kA (by decide) rfl rfl rfl rfl ?_
            rintro v2 σ ⟨rfl, rfl⟩
            repeat (first | refine W.ite_t rfl ?_ | refine W.ite_f rfl ?_ | refine W.need (by decide) ?_)
            refine W.ret ⟨_, _, _, ?_, Trim.of [0, 3, 4, 5, 6, 19, 176, 177, 178] [0, 1, 2, 3, 4, 5] (by decide) (by show ∀ i ∈ [0, 1, 2, 3, 4, 5], i < 8; simp) keep6, m + 1, e, j2, arr ⟨E1, F1, P1, Q1, C1, D1⟩ ⟨qi, qf, 1, qx⟩, ?_, ?_, by omega, rfl, hs2, hI2⟩
            · omega
            · rw [← g6]; rfl
            · rfl
          · dsimp only at ht hx
            subst ht
            have htk := take_nil hIs.g hIs.f hx
            have hCl : C1.length ≤ 1000 := (Half.tail hIs.g).2.2.2
            have kA := ok13A E1 F1 hsa C1 D1 (by omega) qi qf qx (by omega) htk
            refine W.callT [2, 4] kA (by decide) rfl rfl rfl rfl ?_
            rintro v2 σ ⟨rfl, rfl⟩
            repeat (first | refine W.ite_t rfl ?_ | refine W.ite_f rfl ?_ | refine W.need (by decide) ?_)
            refine W.ret ⟨_, _, _, ?_, Trim.of [0, 3, 4, 5, 6, 19, 176, 177, 178] [0, 1, 2, 3, 4, 5] (by decide) (by show ∀ i ∈ [0, 1, 2, 3, 4, 5], i < 8; simp) keep6, m + 1, e, j2, arr ⟨E1, F1, P1, Q1, C1, D1⟩ ⟨qi, qf, 0, qx⟩, ?_, ?_, by omega, rfl, hs2, hI2⟩
            · omega
            · rw [← g6]; rfl
            · rfl
        · have hmL : m = L.length := by have := of_decide_eq_false c2; omega
          subst hmL
          rw [List.take_length] at hs
          rw [← hs] at hnx
          refine W.ret ?_
          refine W.ret ⟨_, _, _, ?_, Trim.of [0, 3, 4, 5, 6, 19] [0, 1, 2, 3, 4, 5] (by decide) (by show ∀ i ∈ [0, 1, 2, 3, 4, 5], i < 6; simp) keep6, i + 1, ⟨n2, L.drop L.length, e, j⟩, s, M ++ packets E, N ++ packets F, ?_, rfl, by omega, rfl, ?_, ?_, hn2⟩
          · omega
          · rw [← g4]; rfl
          · rw [List.drop_length]; exact hnx
          · rw [List.drop_length]; exact Nat.zero_le _
      · have hi6 : i = 60 := by omega
        subst hi6
        obtain ⟨f1, f2, f3, f4, f5, f6⟩ := hFin.done
        have hp9 := hFin.lp
        have hq9 := hFin.lq
        dsimp only at f1 f2 f3 f4 f5 f6 hp9 hq9
        subst f1 f2
        obtain ⟨Eq, Ea, Ec, Eo⟩ := E
        obtain ⟨Fq, Fa, Fc, Fo⟩ := F
        dsimp only at f3 f4 f5 f6
        subst f3 f4 f5 f6
        refine W.ite_f rfl ?_
        refine W.ret ?_
        refine W.need (by decide) ?_
        refine W.need (by decide) ?_
        refine W.pure (ok16 C (by omega)) rfl rfl ?_
        repeat (first | refine W.ite_t rfl ?_ | refine W.ite_f rfl ?_ | refine W.need (by decide) ?_)
        refine W.pure (ok16 D (by omega)) rfl rfl ?_
        repeat (first | refine W.ite_t rfl ?_ | refine W.ite_f rfl ?_ | refine W.need (by decide) ?_)
        refine W.callT [2] (okA6 ⟨[], Ea, Ec, false⟩ ⟨[], Fa, Fc, false⟩) (by decide) rfl rfl rfl rfl ?_
        rintro v σ ⟨rfl, rfl⟩
        repeat (first | refine W.ite_t rfl ?_ | refine W.ite_f rfl ?_ | refine W.need (by decide) ?_)
        refine W.callT [2] (okB6 ⟨[], Fa, Fc, false⟩ ⟨[], Ea, Ec, false⟩) (by decide) rfl rfl rfl rfl ?_
        rintro v σ ⟨rfl, rfl⟩
        repeat (first | refine W.ite_t rfl ?_ | refine W.ite_f rfl ?_ | refine W.need (by decide) ?_)
        exact W.ret (RetQ.pure rfl rfl)
end Go.Proofs.Ytddhlmejaobcgaa.Lk
