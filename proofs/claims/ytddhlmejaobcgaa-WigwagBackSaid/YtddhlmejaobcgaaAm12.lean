/- The abstract machine 'Am': append. -/
import Derived.Test.YtddhlmejaobcgaaAm11
set_option linter.unusedVariables false
set_option linter.unusedSimpArgs false
namespace Go.Am
open Go
variable {P : Program} {ty : Tys}

theorem drew_wr {g : Gh} {σ : Store} {w : World} (hw : WR g σ w) : WR g σ w.drew :=
  ⟨hw.len, fun i x c h1 h2 => BR.keep (w := w) (w' := w.drew) (g := g) (fun _ _ h => h) (fun i _ => Cpt.refl σ g i) (fun _ _ => rfl) (fun _ _ h => .inl h) (hw.blk i x c h1 h2), hw.fact, hw.dist, hw.inb, hw.glob⟩
theorem drew_step (g : Gh) (σ : Store) (w : World) : Step g σ w g σ w.drew :=
  ⟨fun _ _ h => h, Nat.le_refl _, fun _ _ _ => rfl, rfl, rfl, rfl, fun i _ => Cpt.refl σ g i, Nat.le_refl _, fun i c b h k => .inl ⟨i, c, h, k⟩, fun _ _ h => .inl h⟩

/-- An append, whatever its source: what the source's first cells are, in any world that keeps the cells of this one. -/
theorem run_append_any {t t' ty' e : TypeId} {i : TypeInfo} {z : Value} (ht : P.underlying t = some (.slice e)) (hd : (∃ e', P.underlying t' = some (.slice e')) ∨ P.underlying t' = some .string)
    (hi : P.info? e = some i) (hz : i.zero = some z) {x : Value} {m : Nat} {news : List Value} {w : World} (hnl : news.length = m * i.size) (hx : (Builtin.lenOf x).run P w = .ok m w)
    (hf : ∀ w' : World, (∀ a v, w.cell? a = some v → w'.cell? a = some v) → (Builtin.firstCells i.size m x).run P w' = .ok news.toArray w')
    {a : Option Addr} {n cap : Nat} :
    (n + m ≤ cap → m = 0 → (Builtin.append_ #[t, t'] ty' #[.slice a n cap, x]).run P w = .ok (.slice a n cap) w) ∧
    (∀ g cur tt, a = some ⟨g, 0, none⟩ → n + m ≤ cap → w.heap[g]? = some (.cells cur tt (0, 0)) → n * i.size + news.length ≤ cur.size → (∀ u ∈ news, u.oneCell' = true) → 
      (Builtin.append_ #[t, t'] ty' #[.slice a n cap, x]).run P w = .ok (.slice a (n + m) cap) (w.setRow g (cur.toList.take (n * i.size) ++ news ++ cur.toList.drop (n * i.size + news.length)).toArray)) ∧
    (∀ olds : List Value, olds.length = n * i.size → (olds = [] ∨ ∃ b, a = some b ∧ ∀ (j : Nat) v, olds[j]? = some v → w.cell? (b.add j) = some v) → 0 < i.size → cap < n + m → ((n + m : Nat) : Int) ≤ 9223372036854775807 → Builtin.nextslicecap (n + m) cap * i.bytes ≤ 281474976710656 →
      (Builtin.append_ #[t, t'] ty' #[.slice a n cap, x]).run P w = .ok (.slice (some ⟨w.heap.size, 0, none⟩) (n + m) (grownCap w (n + m) cap e))
        (w.drew.alloc (.cells (olds.toArray ++ news.toArray ++ Builtin.zeroCells z.cells (grownCap w (n + m) cap e - (n + m))) e))) := by
  have hf0 := hf w (fun _ _ h => h)
  have hfd := hf w.drew (fun _ _ h => h)
  refine ⟨fun h1 h2 => ?_, fun g cur tt ha h1 h2 h3 h4 => ?_, fun olds hl ho hp h1 h2 h3 => ?_⟩
  · subst h2
    have hn : news = [] := List.eq_nil_of_length_eq_zero (by simpa using hnl)
    subst hn
    have h1' : n ≤ cap := by omega
    rcases hd with ⟨e', hd⟩ | hd <;> cases a <;> simp [Builtin.append_, run_underlying ht, run_underlying hd, sizeOf, typeInfo, hi, hx, h1', hf0, storeCells]
  · subst ha
    have hst := run_storeCells_at P g (n * i.size) tt news 0 cur w h2 (by simpa using h3) h4
    simp only [Nat.add_zero] at hst
    rcases hd with ⟨e', hd⟩ | hd <;> simp [Builtin.append_, run_underlying ht, run_underlying hd, sizeOf, typeInfo, hi, hx, h1, hf0, Addr.add_lit, hst]
  · have hn : ¬ (n + m ≤ cap) := by omega
    have h63' : ¬ (9223372036854775807 < ((n : Int) + (m : Int))) := by omega
    have h48' : ¬ (281474976710656 < Builtin.nextslicecap (n + m) cap * i.bytes) := by omega
    have hfo : (Builtin.firstCells i.size n (.slice a n cap)).run P w.drew = .ok olds.toArray w.drew := by
      rcases ho with rfl | ⟨b, rfl, ho⟩
      · have : n = 0 := by
          rcases Nat.eq_zero_or_pos n with h | h
          · exact h
          · have := Nat.mul_pos h hp
            simp at hl
            omega
        subst this
        cases a <;> simp [Builtin.firstCells, loadCells, loadCellsFrom]
      · exact run_firstCells_some (P := P) w.drew i.size n b n cap olds hl (by simpa using ho)
    rcases hd with ⟨e', hd⟩ | hd <;> simp [Builtin.append_, run_underlying ht, run_underlying hd, sizeOf, typeInfo, zeroValue, hi, hz, hx, hn, h63', h48', Question.forced, hfd, hfo, newRow, grownCap] <;> (congr 2; apply Array.ext'; simp)

/-- What an append takes, in the machine. -/
theorem srcA_ok {σ : Store} {g : Gh} {w : World} (hw : WR g σ w) {sz : Nat} {x : AV} {v : Value} (hv : VR σ g x v) {m : Nat} {cs : List D} (h : srcA σ sz x = some (m, cs)) (hl : m * sz = cs.length) :
    ∃ news : List Value, DRL g.I cs news ∧ (Builtin.lenOf v).run P w = .ok m w ∧
      ∀ w' : World, (∀ a v, w.cell? a = some v → w'.cell? a = some v) → (Builtin.firstCells sz m v).run P w' = .ok news.toArray w' := by
  unfold srcA at h
  split at h
  · rename_i s
    simp only [Option.some.injEq, Prod.mk.injEq] at h
    obtain ⟨rfl, rfl⟩ := h
    have e := hv.lit
    subst e
    refine ⟨s.data.toList.map fun b => .int .u8 b.toNat, DRL.of_get (by simp) fun j x v hx hv => ?_, by simp [Builtin.lenOf], fun w' _ => ?_⟩
    · simp only [List.getElem?_map, Option.map_eq_some_iff] at hx hv
      obtain ⟨b, hb, rfl⟩ := hx
      obtain ⟨b', hb', rfl⟩ := hv
      rw [hb] at hb'
      obtain rfl := Option.some.inj hb'
      rfl
    · have : s.data.extract 0 s.size = s.data := by
        rw [show s.size = s.data.size from rfl, Array.extract_size]
      simp [Builtin.firstCells, this]
      try (apply Array.ext'; simp)
  · rename_i id ep off n
    obtain ⟨b, cap, sz0, e0, cs0, a, kk, hb, hs0, e, hn, ha, hep, hcur⟩ := hv
    rw [hs0] at h
    simp only at h
    cases hb1 : Nat.beq sz0 sz && Nat.beq e0 ep with
    | false => simp [hb1] at h
    | true =>
      simp only [hb1, cond_true, Option.some.injEq, Prod.mk.injEq] at h
      obtain ⟨rfl, rfl⟩ := h
      simp only [Bool.and_eq_true] at hb1
      obtain rfl := Nat.eq_of_beq_eq_true hb1.1
      obtain rfl := Nat.eq_of_beq_eq_true hb1.2
      obtain ⟨hc1, hc2⟩ := hcur rfl
      subst e
      by_cases hz : n * sz0 = 0
      · have h0 : (cs0.drop off).take (n * sz0) = [] := by rw [hz]; rfl
        rw [h0]
        refine ⟨[], rfl, by simp [Builtin.lenOf], fun w' _ => ?_⟩
        cases a <;> simp [Builtin.firstCells, hz, loadCells, loadCellsFrom]
      · have hkk : 0 < kk * sz0 := by
          have := Nat.mul_le_mul_right sz0 hn
          omega
        obtain ⟨arr, tt, k1, k2, k3, k4, k5, k6⟩ := row_cap hw hs0 hb (by omega)
        have hk0 : kk ≠ 0 := fun h => by subst h; simp at hkk
        rcases hc2 with hc2 | rfl
        · exact absurd hc2 hk0
        have hlen : ((cs0.drop off).take (n * sz0)).length = n * sz0 := hl.symm
        have hfit : off + n * sz0 ≤ cs0.length := by simp at hlen; omega
        have hd : DRL g.I ((cs0.drop off).take (n * sz0)) (((arr.toList.take cs0.length).drop off).take (n * sz0)) := (k6.drop off).take _
        refine ⟨_, hd, by simp [Builtin.lenOf], fun w' hw' => ?_⟩
        refine run_firstCells_some (P := P) w' sz0 n ⟨b, off, none⟩ n kk _ (by rw [hd.length, hlen]) fun j v hj => ?_
        rw [add_at]
        refine hw' _ _ ?_
        rw [k4]
        have hjl := (List.getElem?_eq_some_iff.1 hj).1
        rw [List.getElem?_take_of_lt (by simp at hjl; omega), List.getElem?_drop, List.getElem?_take_of_lt (by simp at hjl; omega)] at hj
        exact hj
  · rename_i x hns _
    obtain ⟨a, cap, e, hn, hc⟩ := srcS_ok hw hv h
    subst e
    rcases hc with rfl | ⟨b, off, rfl, hm⟩
    · refine ⟨[], rfl, by simp [Builtin.lenOf], fun w' _ => ?_⟩
      have h0 : m * sz = 0 := by simpa using hl
      cases a <;> simp [Builtin.firstCells, h0, loadCells, loadCellsFrom]
    · have : ∃ news : List Value, news.length = cs.length ∧ ∀ (j : Nat) v, news[j]? = some v → w.cell? ⟨b, off + j, none⟩ = some v ∧ DR g.I (rdD cs j) v := by
        have : ∀ k, k ≤ cs.length → ∃ news : List Value, news.length = k ∧ ∀ (j : Nat) v, news[j]? = some v → w.cell? ⟨b, off + j, none⟩ = some v ∧ DR g.I (rdD cs j) v := by
          intro k
          induction k with
          | zero => exact fun _ => ⟨[], rfl, fun j v h => by simp at h⟩
          | succ k ih =>
            intro hk
            obtain ⟨vs, h1, h2⟩ := ih (by omega)
            obtain ⟨v, h3, h4⟩ := cells_at hw hm (j := k) (by omega)
            refine ⟨vs ++ [v], by simp [h1], fun j u hu => ?_⟩
            rcases Nat.lt_trichotomy j k with h | h | h
            · rw [List.getElem?_append_left (by omega)] at hu
              exact h2 j u hu
            · subst h
              rw [List.getElem?_append_right (by omega)] at hu
              simp [h1] at hu
              subst hu
              exact ⟨h3, h4⟩
            · rw [List.getElem?_eq_none (by simp; omega)] at hu
              cases hu
        exact this cs.length (Nat.le_refl _)
      obtain ⟨news, h1, h2⟩ := this
      refine ⟨news, DRL.of_get h1 fun j x v hx hv => ?_, by simp [Builtin.lenOf], fun w' hw' => ?_⟩
      · have := (h2 j v hv).2
        have hx' : rdD cs j = x := by simp [rdD, List.getD_eq_getElem?_getD, hx]
        rw [hx'] at this
        exact this
      · exact run_firstCells_some (P := P) w' sz m ⟨b, off, none⟩ m cap news (by rw [h1, hl]) fun j v hv => by
          rw [add_at]
          exact hw' _ _ (h2 j v hv).1

theorem DRL.append {I : Facts} : ∀ {cs ds : List D} {vs us : List Value}, DRL I cs vs → DRL I ds us → DRL I (cs ++ ds) (vs ++ us)
  | [], _, _, _, h, k => by rw [DRL] at h; subst h; exact k
  | c :: cs, _, _, _, ⟨v, r, e, h, l⟩, k => by subst e; exact ⟨v, r ++ _, rfl, h, DRL.append l k⟩
/-- The values that cells hold, as a list. -/
theorem cells_all {σ : Store} {g : Gh} {w : World} (hw : WR g σ w) {b off : Nat} {cs : List D} (hm : DRM g.I b off cs) :
    ∃ news : List Value, DRL g.I cs news ∧ ∀ (j : Nat) v, news[j]? = some v → w.cell? ⟨b, off + j, none⟩ = some v := by
  have : ∀ k, k ≤ cs.length → ∃ news : List Value, news.length = k ∧ ∀ (j : Nat) v, news[j]? = some v → w.cell? ⟨b, off + j, none⟩ = some v ∧ DR g.I (rdD cs j) v := by
    intro k
    induction k with
    | zero => exact fun _ => ⟨[], rfl, fun j v h => by simp at h⟩
    | succ k ih =>
      intro hk
      obtain ⟨vs, h1, h2⟩ := ih (by omega)
      obtain ⟨v, h3, h4⟩ := cells_at hw hm (j := k) (by omega)
      refine ⟨vs ++ [v], by simp [h1], fun j u hu => ?_⟩
      rcases Nat.lt_trichotomy j k with h | h | h
      · rw [List.getElem?_append_left (by omega)] at hu
        exact h2 j u hu
      · subst h
        rw [List.getElem?_append_right (by omega)] at hu
        simp [h1] at hu
        subst hu
        exact ⟨h3, h4⟩
      · rw [List.getElem?_eq_none (by simp; omega)] at hu
        cases hu
  obtain ⟨news, h1, h2⟩ := this cs.length (Nat.le_refl _)
  refine ⟨news, DRL.of_get h1 fun j x v hx hv => ?_, fun j v hv => (h2 j v hv).1⟩
  have := (h2 j v hv).2
  have hx' : rdD cs j = x := by simp [rdD, List.getD_eq_getElem?_getD, hx]
  rw [hx'] at this
  exact this

theorem append_vec {g : Gh} {σ : Store} {w : World} (hw : WR g σ w) {id sz n m : Nat} {cs new : List D} {sv : Value} (hs : σ[id]? = some (.vec sz n cs)) (hc : g.μ[id]? = some (.vec sv))
    {t t' ty' e : TypeId} {i : TypeInfo} {z : Value} (ht : P.underlying t = some (.slice e)) (ht' : (∃ e', P.underlying t' = some (.slice e')) ∨ P.underlying t' = some .string)
    (hi : P.info? e = some i) (hz : i.zero = some z) (hsz : i.size = sz) (hzs : z.cells.size = sz) (hpos : 0 < sz) {x : Value} {news : List Value} (hnews : DRL g.I new news) (hx : (Builtin.lenOf x).run P w = .ok m w)
    (hf : ∀ w' : World, (∀ a v, w.cell? a = some v → w'.cell? a = some v) → (Builtin.firstCells sz m x).run P w' = .ok news.toArray w')
    (hl : m * sz = new.length) (hb : (n + m) * i.bytes ≤ 140737488355328) (h63 : n + m ≤ 9223372036854775807) (hone : ∀ c ∈ new, c.one = true) :
    ∃ v w' g', (Builtin.append_ #[t, t'] ty' #[sv, x]).run P w = .ok v w' ∧ VR (σ.set id (.vec sz (n + m) (cs ++ new))) g' (.vec id (n + m)) v ∧ WR g' (σ.set id (.vec sz (n + m) (cs ++ new))) w' ∧
      Step g σ w g' (σ.set id (.vec sz (n + m) (cs ++ new))) w' ∧ ∀ L, id ∉ L → Keep g σ (σ.set id (.vec sz (n + m) (cs ++ new))) w w' L := by
  subst hsz
  have hid : id < g.μ.length := (List.getElem?_eq_some_iff.1 hc).1
  have hid' : id < σ.length := (List.getElem?_eq_some_iff.1 hs).1
  have hnl : news.length = m * i.size := by rw [hnews.length, hl]
  have hone' : ∀ u ∈ news, u.oneCell' = true := fun v hv => by
    obtain ⟨j, hj, hjv⟩ := List.getElem_of_mem hv
    have hlen := hnews.length
    obtain ⟨y, hy⟩ : ∃ y, new[j]? = some y := ⟨_, List.getElem?_eq_getElem (by omega)⟩
    obtain ⟨u, hu, hr⟩ := hnews.get hy
    rw [List.getElem?_eq_getElem hj, hjv] at hu
    obtain rfl := Option.some.inj hu
    exact D_oneCell hr (hone y (List.mem_of_getElem? hy))
  obtain ⟨hcl, hform⟩ := hw.blk _ _ _ hs hc
  -- what the machine does
  have hany := fun (a : Option Addr) (cap : Nat) => run_append_any (P := P) (ty' := ty') ht ht' hi hz hnl hx hf (a := a) (n := n) (cap := cap)
  -- nothing is appended
  by_cases hm0 : m = 0
  · subst hm0
    have hnew0 : new = [] := List.eq_nil_of_length_eq_zero (by simpa using hl.symm)
    subst hnew0
    obtain ⟨a, cap, hsv, hcap⟩ : ∃ a cap, sv = .slice a n cap ∧ n ≤ cap := by
      rcases hform with ⟨a, rfl, rfl⟩ | ⟨b, cap, arr, tt, e1, e2, _⟩
      · exact ⟨a, 0, rfl, Nat.le_refl _⟩
      · exact ⟨_, _, e1, e2⟩
    have hset : σ.set id (.vec i.size (n + 0) (cs ++ [])) = σ := by
      simp only [Nat.add_zero, List.append_nil]
      apply List.ext_getElem?
      intro j
      by_cases e : id = j
      · subst e; rw [List.getElem?_set_self hid', hs]
      · rw [List.getElem?_set_ne e]
    rw [hset]
    refine ⟨sv, w, g, ?_, ?_, hw, Step.refl g σ w, fun L _ => Keep.refl g σ w L⟩
    · rw [hsv]
      exact (hany a cap).1 (by omega) rfl
    · refine ⟨sv, i.size, n, cs, a, cap, hc, hs, Nat.le_refl _, by simpa using hsv, by simpa using hcap, fun _ => rfl, by simp; omega, ?_⟩
      simp only [Nat.add_zero, hcl, List.take_length]
      rcases hform with ⟨a', e1, e2⟩ | ⟨b, cap', arr, tt, e1, e2, e3, e4, e5, e6⟩
      · left
        subst e2
        exact List.eq_nil_of_length_eq_zero (by simpa using hcl.symm)
      · right
        rw [hsv] at e1
        injection e1 with e1 _ _
        exact ⟨b, 0, e1, e5⟩
  have hmp : 0 < m := Nat.pos_of_ne_zero hm0
  have hnewpos : 0 < new.length := by rw [← hl]; exact Nat.mul_pos hmp hpos
  -- the new row, whatever its capacity
  have grow : ∀ (olds : List Value) (cap : Nat), DRL g.I cs olds → cap < n + m → (∀ a, sv = .slice a n cap → (olds = [] ∨ ∃ b, a = some b ∧ ∀ (j : Nat) v, olds[j]? = some v → w.cell? (b.add j) = some v)) → (∃ a, sv = .slice a n cap) → (∀ b, (Cn.vec sv).owns b → b < w.heap.size) →
      ∃ v w' g', (Builtin.append_ #[t, t'] ty' #[sv, x]).run P w = .ok v w' ∧ VR (σ.set id (.vec i.size (n + m) (cs ++ new))) g' (.vec id (n + m)) v ∧ WR g' (σ.set id (.vec i.size (n + m) (cs ++ new))) w' ∧
        Step g σ w g' (σ.set id (.vec i.size (n + m) (cs ++ new))) w' ∧ ∀ L, id ∉ L → Keep g σ (σ.set id (.vec i.size (n + m) (cs ++ new))) w w' L := by
    intro olds cap hold hlt holds ⟨a, hsv⟩ howns
    have hrun := (hany a cap).2.2 olds (by rw [hold.length, hcl]) (holds a hsv) hpos hlt (by omega) (growslice_fits hlt hb)
    rw [← hsv] at hrun
    have hge := grownCap_ge w (n + m) cap e
    generalize grownCap w (n + m) cap e = C at hrun hge
    obtain ⟨C, rfl⟩ : ∃ C', C = C' + 1 := ⟨C - 1, by omega⟩
    have hol := hold.length
    generalize harr : olds.toArray ++ news.toArray ++ Builtin.zeroCells z.cells (C + 1 - (n + m)) = arr at hrun
    have hasz : arr.size = (C + 1) * i.size := by
      rw [← harr]
      simp only [Array.size_append, List.size_toArray, size_zeroCells, hzs, hol, hnl, ← hcl]
      rw [← Nat.add_mul, ← Nat.add_mul]
      congr 1
      omega
    have hget : ∀ (j : Nat) v, (olds ++ news)[j]? = some v → arr[j]? = some v := fun j v hj => by
      have hlt : j < (olds ++ news).length := (List.getElem?_eq_some_iff.1 hj).1
      rw [← harr, Array.getElem?_append_left (by simpa using hlt)]
      simpa using hj
    have hheap : (w.drew.alloc (.cells arr e)).heap[w.heap.size]? = some (.cells arr e (0, 0)) := heap_alloc_new w.drew _
    have hold' : ∀ b, b < w.heap.size → (w.drew.alloc (.cells arr e)).heap[b]? = w.heap[b]? := fun b hb => heap_alloc_old w.drew _ hb
    let J : Facts := fun a v => g.I a v ∨ ∃ j, a = ⟨w.heap.size, j, none⟩ ∧ (olds ++ news)[j]? = some v
    have hall : DRL J (cs ++ new) (olds ++ news) := DRL.append (DRL.mono (fun _ _ h => .inl h) _ _ hold) (DRL.mono (fun _ _ h => .inl h) _ _ hnews)
    have hdrm : DRM J w.heap.size 0 (cs ++ new) := DRM.of_get fun j hj => by
      have hx : (cs ++ new)[j]? = some (rdD (cs ++ new) j) := by simp only [rdD, List.getD_eq_getElem?_getD, List.getElem?_eq_getElem hj, Option.getD_some]
      obtain ⟨v, hv, hd⟩ := hall.get hx
      exact ⟨v, .inr ⟨j, by simp, hv⟩, hd⟩
    have hset : (g.μ.set id (.vec (.slice (some ⟨w.heap.size, 0, none⟩) (n + m) (C + 1))))[id]? = some (.vec (.slice (some ⟨w.heap.size, 0, none⟩) (n + m) (C + 1))) := List.getElem?_set_self hid
    have hset' : (σ.set id (.vec i.size (n + m) (cs ++ new)))[id]? = some (.vec i.size (n + m) (cs ++ new)) := List.getElem?_set_self hid'
    have hlen : (n + m) * i.size = (cs ++ new).length := by rw [Nat.add_mul, hcl, hl, List.length_append]
    have hblk : ∀ a v, g.I a v → a.block < w.heap.size := fun a v ha => World.block_lt_of_cell? w a (hw.fact a v ha)
    obtain ⟨k1, k2, k3⟩ := hw.turn (w' := w.drew.alloc (.cells arr e)) (x' := .vec i.size (n + m) (cs ++ new)) (c' := .vec (.slice (some ⟨w.heap.size, 0, none⟩) (n + m) (C + 1))) hs hc (J := J) (fun _ _ h => .inl h)
      (fun a v ha => by
        rcases ha with ha | ⟨j, rfl, hj⟩
        · rw [World.cell?_of_block (w := w) (hold' _ (hblk a v ha))]
          exact hw.fact a v ha
        · rw [cell_of_row _ _ _ _ _ _ hheap]
          exact hget j v hj)
      (by
        refine ⟨fun c h => ?_, fun c h => ?_, fun c h => ?_, fun s sz m' cs' h1 h2 => ?_, fun b cap sz e cs h _ => ?_, fun sn e3 H3 h _ => ?_⟩
        rotate_right 2
        · rw [hc] at h; cases h
        · rw [hc] at h; cases h
        · rw [hc] at h; cases h
        · rw [hc] at h; cases h
        · rw [hc] at h; cases h
        · rw [hs] at h2
          obtain ⟨rfl, rfl, rfl⟩ : i.size = sz ∧ n = m' ∧ cs = cs' := by simpa using h2
          exact ⟨_, _, new, hset, hset', by omega, fun e => by omega⟩)
      (fun _ => ⟨hlen, .inr ⟨w.heap.size, C, arr, e, rfl, hge, hheap, hasz, hdrm, fun a v ha hab => by
        rcases ha with ha | ⟨j, rfl, hj⟩
        · have := hblk a v ha
          omega
        · have := (List.getElem?_eq_some_iff.1 hj).1
          rw [hlen]
          simpa [hol, hnews.length] using this⟩⟩)
      (by show w.heap.size ≤ (w.heap.push _).size; simp) (fun b hb _ => hold' b hb) (fun b hb => by
        obtain rfl : w.heap.size = b := by simpa [Cn.owns] using hb
        exact .inr ⟨Nat.le_refl _, by show w.heap.size < (w.heap.push _).size; simp⟩) (fun a v ha => by
        rcases ha with ha | ⟨j, rfl, hj⟩
        · exact .inl ha
        · exact .inr (.inr (Nat.le_refl _))) ⟨rfl, rfl, rfl⟩
    refine ⟨_, _, _, hrun, ⟨_, i.size, n + m, cs ++ new, _, _, hset, hset', Nat.le_refl _, rfl, hge, fun _ => rfl, by omega, .inr ⟨w.heap.size, 0, rfl, hdrm.take _⟩⟩, k1, k2, k3⟩
  rcases hform with ⟨a, rfl, rfl⟩ | ⟨b, cap, arr, tt, rfl, e2, e3, e4, e5, e6⟩
  · have hcs : cs = [] := List.eq_nil_of_length_eq_zero (by simpa using hcl.symm)
    subst hcs
    exact grow [] 0 rfl (by omega) (fun _ _ => .inl rfl) ⟨a, rfl⟩ (fun b hb => by cases a <;> cases hb)
  · by_cases hroom : n + m ≤ cap + 1
    · have hnc : n * i.size + news.length ≤ arr.size := by
        rw [hnl, e4, ← Nat.add_mul]
        exact Nat.mul_le_mul_right _ hroom
      have hrun := (hany (some ⟨b, 0, none⟩) (cap + 1)).2.1 b arr tt rfl hroom e3 hnc hone'
      generalize harr : (arr.toList.take (n * i.size) ++ news ++ arr.toList.drop (n * i.size + news.length)).toArray = arr' at hrun
      have hasz : arr'.size = (cap + 1) * i.size := by
        rw [← harr, ← e4]
        simp
        omega
      have hpre : ∀ (j : Nat), j < n * i.size → arr'[j]? = arr[j]? := fun j hj => by
        rw [← harr, List.append_assoc]
        simp only [List.getElem?_toArray]
        rw [List.getElem?_append_left (by simp; omega), List.getElem?_take_of_lt hj]
        simp
      have hmid : ∀ (j : Nat) v, news[j]? = some v → arr'[n * i.size + j]? = some v := fun j v hj => by
        have hlt : j < news.length := (List.getElem?_eq_some_iff.1 hj).1
        rw [← harr, List.append_assoc]
        simp only [List.getElem?_toArray]
        have hlen : (arr.toList.take (n * i.size)).length = n * i.size := by simp; omega
        rw [List.getElem?_append_right (by rw [hlen]; omega), hlen, Nat.add_sub_cancel_left, List.getElem?_append_left hlt]
        exact hj
      have hheap : (w.setRow b arr').heap[b]? = some (.cells arr' tt (0, 0)) := setRow_heap w b arr arr' tt (0, 0) e3
      let J : Facts := fun a v => g.I a v ∨ ∃ j, a = ⟨b, n * i.size + j, none⟩ ∧ news[j]? = some v
      have hdrm : DRM J b 0 (cs ++ new) := (DRM.mono (fun _ _ h => .inl h) b 0 cs e5).append (DRM.of_get fun j hj => by
        have hx : new[j]? = some (rdD new j) := by simp only [rdD, List.getD_eq_getElem?_getD, List.getElem?_eq_getElem hj, Option.getD_some]
        obtain ⟨v, hv, hd⟩ := hnews.get hx
        exact ⟨v, .inr ⟨j, by rw [hcl]; simp, hv⟩, DR.mono (fun _ _ h => .inl h) _ _ hd⟩)
      have hset : (g.μ.set id (.vec (.slice (some ⟨b, 0, none⟩) (n + m) (cap + 1))))[id]? = some (.vec (.slice (some ⟨b, 0, none⟩) (n + m) (cap + 1))) := List.getElem?_set_self hid
      have hset' : (σ.set id (.vec i.size (n + m) (cs ++ new)))[id]? = some (.vec i.size (n + m) (cs ++ new)) := List.getElem?_set_self hid'
      have hlen : (n + m) * i.size = (cs ++ new).length := by rw [Nat.add_mul, hcl, hl, List.length_append]
      obtain ⟨k1, k2, k3⟩ := hw.turn (w' := w.setRow b arr') (x' := .vec i.size (n + m) (cs ++ new)) (c' := .vec (.slice (some ⟨b, 0, none⟩) (n + m) (cap + 1))) hs hc (J := J) (fun _ _ h => .inl h)
        (fun a v ha => by
          rcases ha with ha | ⟨j, rfl, hj⟩
          · have hf := hw.fact a v ha
            by_cases hab : a.block = b
            · have hoff := e6 a v ha hab
              unfold World.cell? at hf ⊢
              rw [hab] at hf ⊢
              rw [e3] at hf
              rw [hheap]
              simp only at hf ⊢
              rw [hpre _ hoff]
              exact hf
            · rw [World.cell?_of_block (w := w) (setRow_other w b a.block _ hab)]
              exact hf
          · rw [cell_of_row _ _ _ _ _ _ hheap]
            exact hmid j v hj)
        (by
          refine ⟨fun c h => ?_, fun c h => ?_, fun c h => ?_, fun s sz m' cs' h1 h2 => ?_, fun b cap sz e cs h _ => ?_, fun sn e3 H3 h _ => ?_⟩
          rotate_right 2
          · rw [hc] at h; cases h
          · rw [hc] at h; cases h
          · rw [hc] at h; cases h
          · rw [hc] at h; cases h
          · rw [hc] at h; cases h
          · rw [hs] at h2
            obtain ⟨rfl, rfl, rfl⟩ : i.size = sz ∧ n = m' ∧ cs = cs' := by simpa using h2
            exact ⟨_, _, new, hset, hset', by omega, fun e => by omega⟩)
        (fun _ => ⟨hlen, .inr ⟨b, cap, arr', tt, rfl, hroom, hheap, hasz, hdrm, fun a v ha hab => by
          rcases ha with ha | ⟨j, rfl, hj⟩
          · have := e6 a v ha hab
            rw [Nat.add_mul]
            omega
          · have := (List.getElem?_eq_some_iff.1 hj).1
            rw [Nat.add_mul, ← hnl]
            show n * i.size + j < _
            omega⟩⟩)
        (by simp [World.setRow]) (fun b' hb' hne => setRow_other w b b' _ (fun e => hne (by rw [e]; rfl))) (fun b' hb' => .inl hb') (fun a v ha => by
          rcases ha with ha | ⟨j, rfl, hj⟩
          · exact .inl ha
          · exact .inr (.inl rfl)) ⟨rfl, rfl, rfl⟩
      exact ⟨_, _, _, hrun, ⟨_, i.size, n + m, cs ++ new, _, _, hset, hset', Nat.le_refl _, rfl, hroom, fun _ => rfl, by omega, .inr ⟨b, 0, rfl, hdrm.take _⟩⟩, k1, k2, k3⟩
    · obtain ⟨olds, o1, o2⟩ := cells_all hw e5
      refine grow olds (cap + 1) o1 (by omega) (fun a ha => .inr ⟨⟨b, 0, none⟩, ?_, fun j v hj => ?_⟩) ⟨_, rfl⟩ (fun b' hb' => hw.inb _ _ _ hc hb')
      · injection ha with ha _ _
        exact ha.symm
      · rw [add_at]
        exact o2 j v hj
/-- An append to a row of which the cells may be written. -/
theorem append_row {g : Gh} {σ : Store} {w : World} (hw : WR g σ w) {id sz ep n m b cap k : Nat} {a : Option Addr} {cs new : List D} (hs : σ[id]? = some (.row sz ep cs)) (hc : g.μ[id]? = some (.row b cap))
    {t t' ty' e : TypeId} {i : TypeInfo} {z : Value} (ht : P.underlying t = some (.slice e)) (ht' : (∃ e', P.underlying t' = some (.slice e')) ∨ P.underlying t' = some .string)
    (hi : P.info? e = some i) (hz : i.zero = some z) (hsz : i.size = sz) (hzs : z.cells.size = sz) (hpos : 0 < sz) {x : Value} {news : List Value} (hnews : DRL g.I new news) (hx : (Builtin.lenOf x).run P w = .ok m w)
    (hf : ∀ w' : World, (∀ a v, w.cell? a = some v → w'.cell? a = some v) → (Builtin.firstCells sz m x).run P w' = .ok news.toArray w')
    (hnk : n ≤ k) (hkc : k * sz = cap) (hka : k = 0 ∨ a = some ⟨b, 0, none⟩) (hna : n = 0 ∨ a ≠ none) (hfit : n * sz ≤ cs.length)
    (hl : m * sz = new.length) (hb : (n + m) * i.bytes ≤ 140737488355328) (h63 : n + m ≤ 9223372036854775807) (hone : ∀ c ∈ new, c.one = true) :
    (Nat.ble ((n + m) * sz) cs.length = true → ∃ v w' g', (Builtin.append_ #[t, t'] ty' #[.slice a n k, x]).run P w = .ok v w' ∧ VR (σ.set id (.row sz ep (cs.take (n * sz) ++ new ++ cs.drop ((n + m) * sz)))) g' (.row id ep 0 (n + m)) v ∧
      WR g' (σ.set id (.row sz ep (cs.take (n * sz) ++ new ++ cs.drop ((n + m) * sz)))) w' ∧ Step g σ w g' (σ.set id (.row sz ep (cs.take (n * sz) ++ new ++ cs.drop ((n + m) * sz)))) w' ∧ ∀ L, id ∉ L → Keep g σ (σ.set id (.row sz ep (cs.take (n * sz) ++ new ++ cs.drop ((n + m) * sz)))) w w' L) ∧
    (Nat.ble ((n + m) * sz) cs.length = false → ∃ v w' g', (Builtin.append_ #[t, t'] ty' #[.slice a n k, x]).run P w = .ok v w' ∧ VR (σ.set id (.row sz (ep + 1) (cs.take (n * sz) ++ new))) g' (.row id (ep + 1) 0 (n + m)) v ∧
      WR g' (σ.set id (.row sz (ep + 1) (cs.take (n * sz) ++ new))) w' ∧ Step g σ w g' (σ.set id (.row sz (ep + 1) (cs.take (n * sz) ++ new))) w' ∧ ∀ L, id ∉ L → Keep g σ (σ.set id (.row sz (ep + 1) (cs.take (n * sz) ++ new))) w w' L) := by
  subst hsz
  have hid : id < g.μ.length := (List.getElem?_eq_some_iff.1 hc).1
  have hid' : id < σ.length := (List.getElem?_eq_some_iff.1 hs).1
  have hnl : news.length = m * i.size := by rw [hnews.length, hl]
  have hlc : cs.length ≤ cap := (hw.blk _ _ _ hs hc).1
  have hone' : ∀ u ∈ news, u.oneCell' = true := fun v hv => by
    obtain ⟨j, hj, hjv⟩ := List.getElem_of_mem hv
    have hlen := hnews.length
    obtain ⟨y, hy⟩ : ∃ y, new[j]? = some y := ⟨_, List.getElem?_eq_getElem (by omega)⟩
    obtain ⟨u, hu, hr⟩ := hnews.get hy
    rw [List.getElem?_eq_getElem hj, hjv] at hu
    obtain rfl := Option.some.inj hu
    exact D_oneCell hr (hone y (List.mem_of_getElem? hy))
  have hany := run_append_any (P := P) (ty' := ty') ht ht' hi hz hnl hx hf (a := a) (n := n) (cap := k)
  -- nothing is appended
  by_cases hm0 : m = 0
  · subst hm0
    have hnew0 : new = [] := List.eq_nil_of_length_eq_zero (by simpa using hl.symm)
    subst hnew0
    have hset : σ.set id (.row i.size ep (cs.take (n * i.size) ++ [] ++ cs.drop ((n + 0) * i.size))) = σ := by
      simp only [Nat.add_zero, List.append_nil, List.take_append_drop]
      apply List.ext_getElem?
      intro j
      by_cases e : id = j
      · subst e; rw [List.getElem?_set_self hid', hs]
      · rw [List.getElem?_set_ne e]
    refine ⟨fun _ => ?_, fun h => ?_⟩
    · rw [hset]
      exact ⟨_, w, g, hany.1 (by omega) rfl, ⟨b, cap, i.size, ep, cs, a, k, hc, hs, rfl, hnk, hna, Nat.le_refl _, fun _ => ⟨by omega, hka⟩⟩, hw, Step.refl g σ w, fun L _ => Keep.refl g σ w L⟩
    · have : Nat.ble ((n + 0) * i.size) cs.length = true := Nat.ble_eq_true_of_le (by simpa using hfit)
      rw [this] at h; cases h
  have hmp : 0 < m := Nat.pos_of_ne_zero hm0
  have hnew : 0 < new.length := by rw [← hl]; exact Nat.mul_pos hmp hpos
  by_cases hroom : n + m ≤ k
  · -- in place
    have hcap : 0 < cap := by rw [← hkc]; exact Nat.mul_pos (by omega) hpos
    obtain ⟨arr, tt, k1, k2, k3, k4, k5, k6⟩ := row_cap hw hs hc hcap
    rcases hka with h0 | rfl
    · omega
    have hle : (n + m) * i.size ≤ cap := by rw [← hkc]; exact Nat.mul_le_mul_right _ hroom
    have hadd : (n + m) * i.size = n * i.size + new.length := by rw [Nat.add_mul, hl]
    have hrun := hany.2.1 b arr tt rfl hroom k1 (by rw [hnl, k2, ← Nat.add_mul]; exact hle) hone'
    have hasz : (arr.toList.take (n * i.size) ++ news ++ arr.toList.drop (n * i.size + news.length)).toArray.size = cap := by
      have h1 : arr.toList.length = cap := k2
      have h2 := hnews.length
      show (arr.toList.take (n * i.size) ++ news ++ arr.toList.drop (n * i.size + news.length)).length = cap
      simp only [List.length_append, List.length_take, List.length_drop, h1]
      omega
    refine ⟨fun h => ?_, fun h => ?_⟩
    · have h := Nat.le_of_ble_eq_true h
      obtain ⟨p1, p2⟩ := row_splice (off := n * i.size) k6 hnews (by omega) (by omega)
      rw [← hadd] at p1 p2
      obtain ⟨q1, q2, q3⟩ := row_turn hw hs hc hcap k1 _ hasz (by rw [p1]; exact k3) p2 (Nat.le_refl _) k5
      exact ⟨_, _, _, hrun, ⟨b, cap, i.size, ep, _, _, k, List.getElem?_set_self hid, List.getElem?_set_self hid', rfl, hroom, .inr (by simp), Nat.le_refl _, fun _ => ⟨by omega, .inr rfl⟩⟩, q1, q2, q3⟩
    · have hl1 : (cs.take (n * i.size) ++ new).length = (n + m) * i.size := by simp; omega
      have p2 : DRL g.I (cs.take (n * i.size) ++ new) ((arr.toList.take (n * i.size) ++ news ++ arr.toList.drop (n * i.size + news.length)).toArray.toList.take (cs.take (n * i.size) ++ new).length) := by
        rw [hl1]
        have : (arr.toList.take (n * i.size) ++ news ++ arr.toList.drop (n * i.size + news.length)).take ((n + m) * i.size) = arr.toList.take (n * i.size) ++ news := by
          rw [List.take_append_of_le_length (by simp; omega), List.take_of_length_le (by simp; omega)]
        show DRL g.I _ ((arr.toList.take (n * i.size) ++ news ++ arr.toList.drop (n * i.size + news.length)).take ((n + m) * i.size))
        rw [this]
        refine DRL.append ?_ hnews
        have := k6.take (n * i.size)
        rwa [List.take_take, Nat.min_eq_left hfit] at this
      obtain ⟨q1, q2, q3⟩ := row_turn hw hs hc hcap k1 _ hasz (by rw [hl1]; exact hle) p2 (Nat.le_succ _) k5
      exact ⟨_, _, _, hrun, ⟨b, cap, i.size, ep + 1, _, _, k, List.getElem?_set_self hid, List.getElem?_set_self hid', rfl, hroom, .inr (by simp), Nat.le_refl _, fun _ => ⟨by omega, .inr rfl⟩⟩, q1, q2, q3⟩
  · -- somewhere else
    have hlt : k < n + m := by omega
    refine ⟨fun h => ?_, fun _ => ?_⟩
    · have h := Nat.le_of_ble_eq_true h
      have : (n + m) * i.size ≤ k * i.size := by omega
      have := Nat.le_of_mul_le_mul_right this hpos
      omega
    obtain ⟨olds, ho1, ho2, ho3⟩ : ∃ olds : List Value, olds.length = n * i.size ∧ (olds = [] ∨ ∃ b, a = some b ∧ ∀ (j : Nat) v, olds[j]? = some v → w.cell? (b.add j) = some v) ∧ DRL g.I (cs.take (n * i.size)) olds := by
      rcases Nat.eq_zero_or_pos k with h0 | h0
      · have : n = 0 := by omega
        subst this
        exact ⟨[], by simp, .inl rfl, by simp [DRL]⟩
      · have hcap : 0 < cap := by rw [← hkc]; exact Nat.mul_pos h0 hpos
        obtain ⟨arr, tt, k1, k2, k3, k4, k5, k6⟩ := row_cap hw hs hc hcap
        rcases hka with h1 | rfl
        · omega
        refine ⟨arr.toList.take (n * i.size), by simp; omega, .inr ⟨_, rfl, fun j v hj => ?_⟩, ?_⟩
        · have hjl := (List.getElem?_eq_some_iff.1 hj).1
          rw [List.getElem?_take_of_lt (by simp at hjl; omega)] at hj
          rw [add_at, Nat.zero_add, k4]
          exact hj
        · have := k6.take (n * i.size)
          rwa [List.take_take, Nat.min_eq_left hfit] at this
    have hrun := hany.2.2 olds ho1 ho2 hpos hlt (by omega) (growslice_fits hlt hb)
    have hge := grownCap_ge w (n + m) k e
    generalize grownCap w (n + m) k e = C at hrun hge
    generalize harr : olds.toArray ++ news.toArray ++ Builtin.zeroCells z.cells (C - (n + m)) = arr at hrun
    have hasz : arr.size = C * i.size := by
      rw [← harr]
      simp only [Array.size_append, List.size_toArray, size_zeroCells, hzs, ho1, hnl]
      rw [← Nat.add_mul, ← Nat.add_mul]
      congr 1
      omega
    have hl1 : (cs.take (n * i.size) ++ new).length = (n + m) * i.size := by simp; rw [Nat.add_mul]; omega
    have htake : arr.toList.take (cs.take (n * i.size) ++ new).length = olds ++ news := by
      rw [hl1, ← harr, Array.toList_append, Array.toList_append, List.take_append_of_le_length (by simp [ho1, hnl]; rw [Nat.add_mul]; omega), List.take_of_length_le (by simp [ho1, hnl]; rw [Nat.add_mul]; omega)]
    have hheap : (w.drew.alloc (.cells arr e)).heap[w.heap.size]? = some (.cells arr e (0, 0)) := heap_alloc_new w.drew _
    have hold' : ∀ b, b < w.heap.size → (w.drew.alloc (.cells arr e)).heap[b]? = w.heap[b]? := fun b hb => heap_alloc_old w.drew _ hb
    have hblk : ∀ a v, g.I a v → a.block < w.heap.size := fun a v ha => World.block_lt_of_cell? w a (hw.fact a v ha)
    obtain ⟨q1, q2, q3⟩ := hw.turn (w' := w.drew.alloc (.cells arr e)) (x' := .row i.size (ep + 1) (cs.take (n * i.size) ++ new)) (c' := .row w.heap.size (C * i.size)) hs hc (J := g.I) (fun _ _ h => h)
      (fun a v ha => by
        rw [World.cell?_of_block (w := w) (hold' _ (hblk a v ha))]
        exact hw.fact a v ha)
      (by
        refine ⟨fun c h => ?_, fun c h => ?_, fun c h => ?_, fun s sz m cs' h1 h2 => ?_, fun b2 cap2 sz2 e2 cs2 h1 h2 => ?_, fun sn e3 H3 h _ => ?_⟩
        rotate_right 1
        · rw [hc] at h; cases h
        · rw [hc] at h; cases h
        · rw [hc] at h; cases h
        · rw [hc] at h; cases h
        · rw [hc] at h1; cases h1
        · rw [hs] at h2
          obtain ⟨rfl, rfl, rfl⟩ : i.size = sz2 ∧ ep = e2 ∧ cs = cs2 := by simpa using h2
          exact ⟨_, _, ep + 1, _, List.getElem?_set_self hid, List.getElem?_set_self hid', Nat.le_succ _, fun e => by omega⟩)
      (fun _ => ⟨by rw [hl1]; exact Nat.mul_le_mul_right _ hge, .inr ⟨⟨arr, e, _, hheap, hasz, by rw [htake]; exact DRL.append ho3 hnews, rfl⟩, fun a v ha hab => by
        have := hblk a v ha
        omega⟩⟩)
      (by show w.heap.size ≤ (w.heap.push _).size; simp) (fun b hb _ => hold' b hb) (fun b hb => by
        have : 0 < C * i.size := Nat.mul_pos (by omega) hpos
        obtain ⟨c, hcc⟩ : ∃ c, C * i.size = c + 1 := ⟨C * i.size - 1, by omega⟩
        rw [hcc] at hb
        obtain rfl : w.heap.size = b := by simpa [Cn.owns] using hb
        exact .inr ⟨Nat.le_refl _, by show w.heap.size < (w.heap.push _).size; simp⟩) (fun a v ha => .inl ha) ⟨rfl, rfl, rfl⟩
    exact ⟨_, _, _, hrun, ⟨w.heap.size, C * i.size, i.size, ep + 1, _, _, C, List.getElem?_set_self hid, List.getElem?_set_self hid', rfl, hge, .inr (by simp), Nat.le_refl _, fun _ => ⟨by omega, .inr rfl⟩⟩, q1, q2, q3⟩
end Go.Am
