import Derived.Test.YtddhlmejaobcgaaAm24
import Derived.Laws.Externs
/- A row at its function's end: nothing writes it any more, so that it goes on as data. -/
set_option linter.unusedVariables false
set_option linter.unusedSimpArgs false
namespace Go.Am
open Go
variable {P : Program}
/-- More is known of memory that nobody owns. -/
theorem WR.more {g : Gh} {σ : Store} {w : World} (hw : WR g σ w) {F : Facts} (hF : ∀ a v, F a v → w.cell? a = some v) (ho : ∀ a v, F a v → ∀ (i : Nat) c, g.μ[i]? = some c → ¬ c.owns a.block) :
    WR ⟨g.μ, fun a v => g.I a v ∨ F a v⟩ σ w where
  len := hw.len
  blk := fun i x c h1 h2 => (hw.blk i x c h1 h2).keep (g := g) (fun _ _ k => .inl k) (fun i _ => Cpt.same rfl rfl) (fun _ _ => rfl) fun a v k => k.imp _root_.id fun k => ho a v k i c h2
  fact := fun a v k => k.elim (hw.fact a v) (hF a v)
  dist := hw.dist
  inb := hw.inb
  glob := hw.glob.mono fun a v k => .inl k
theorem DRM.of_row {I : Facts} {b : Nat} {cs : List D} {vs : List Value} (h : DRL I cs vs) {J : Facts} (hJ : ∀ a v, I a v → J a v) (hc : ∀ (j : Nat) v, vs[j]? = some v → J ⟨b, j, none⟩ v) : DRM J b 0 cs :=
  DRM.of_get fun j hj => by
    obtain ⟨v, h1, h2⟩ := h.get (j := j) (x := rdD cs j) (by simp [rdD, List.getD_eq_getElem?_getD, List.getElem?_eq_getElem hj])
    exact ⟨v, by rw [Nat.zero_add]; exact hc j v h1, DR.mono hJ _ _ h2⟩
/-- A row that is dropped goes on as data. -/
theorem CallOk.freeze {f : FuncId} {args : List AV} {σ : Store} {R : AV → Store → Prop}
    (h : CallOk P f args σ fun v s => R v s ∨ ∃ (T : List Nat) (j e off n sz : Nat) (cs : List D), v = .row j e off n ∧ s[j]? = some (.row sz e cs) ∧ off + n * sz ≤ cs.length ∧ T.Nodup ∧ (∀ i ∈ T, i < s.length) ∧ (∀ i, i < σ.length → T[i]? = some i) ∧ j ∉ T ∧ σ.length ≤ j ∧
      R (.d (.sl n ((cs.drop off).take (n * sz)))) (subS s T)) : CallOk P f args σ R :=
  fun g w vs hg hv => (h g w vs hg hv).mono fun v w' ⟨g', s, av, h1, h2, h3, h4⟩ => by
    rcases h4 with h4 | ⟨T, j, e, off, n, sz, cs, k1, k2, k3, k4, k5, k6, k7, k8, k9⟩
    · exact ⟨g', s, av, h1, h2, h3, h4⟩
    subst k1
    have hlen : g.μ.length = σ.length := hg.len
    obtain ⟨t1, t2, _⟩ := trim_ok (n := 0) (fr := []) (a := ⟨#[], []⟩) h2 h3 k4 k5 (fun i hi => k6 i (by omega))
    obtain ⟨b, cap, sz', e', cs', a, k, q1, q2, q3, q4, q5, q6, q7⟩ := h1
    rw [k2] at q2
    obtain ⟨rfl, rfl, rfl⟩ : sz = sz' ∧ e = e' ∧ cs = cs' := by injection q2 with q2; injection q2; exact ⟨by assumption, by assumption, by assumption⟩
    obtain ⟨q8, q9⟩ := q7 rfl
    have hb := h2.blk j _ _ k2 q1
    obtain ⟨b1, b2⟩ := hb
    rcases Nat.eq_zero_or_pos cap with hc | hc
    · -- no cells
      have hcs : cs = [] := List.eq_nil_of_length_eq_zero (by omega)
      subst hcs
      exact ⟨_, _, .d (.sl n ((List.drop off []).take (n * sz))), ⟨a, k, q3, q4, .inl (by simp)⟩, t1, t2, k9⟩
    · obtain ⟨⟨arr, ty, us, m1, m2, m3, m4⟩, m5⟩ : (∃ arr ty vs, w'.heap[b]? = some (.cells arr ty (0, 0)) ∧ arr.size = cap ∧ DRL g'.I cs vs ∧ arr.toList.take cs.length = vs) ∧ ∀ a v, g'.I a v → a.block ≠ b := b2.resolve_left (by omega)
      have hown : (Cn.row b cap).owns b := by
        cases cap with
        | zero => omega
        | succ c => rfl
      have hcell : ∀ (i : Nat) v, us[i]? = some v → w'.cell? ⟨b, i, none⟩ = some v := fun i v hv => by
        rw [cell_of_row _ _ _ _ _ _ m1]
        rw [← m4, List.getElem?_take] at hv
        split at hv
        · simpa using hv
        · cases hv
      have wr := t1.more (F := fun a v => ∃ i, a = ⟨b, i, none⟩ ∧ us[i]? = some v) (fun a v ⟨i, e, hv⟩ => by subst e; exact hcell i v hv) (fun a v ⟨i, e, _⟩ i' c' hi' ho => by
        subst e
        simp only [subG, List.getElem?_map, Option.map_eq_some_iff] at hi'
        obtain ⟨q, hq, hq2⟩ := hi'
        have hqs : q < s.length := k5 q (List.mem_of_getElem? hq)
        have hqm : g'.μ[q]? = some c' := by
          have hl : q < g'.μ.length := by rw [h2.len]; exact hqs
          rw [List.getElem?_eq_getElem hl] at hq2 ⊢
          exact congrArg some hq2
        have := h2.dist q j c' _ b hqm q1 ho hown
        subst this
        exact k7 (List.mem_of_getElem? hq))
      have hnews : w.heap.size ≤ b ∨ ∃ (j : Nat) (c' : Cn), g.μ[j]? = some c' ∧ c'.owns b := by
        rcases h3.own j _ b q1 hown with h | h
        · exact .inr h
        · exact .inl h
      refine ⟨_, _, .d (.sl n ((cs.drop off).take (n * sz))), ?_, wr, ?_, k9⟩
      · refine ⟨a, k, q3, q4, ?_⟩
        rcases q9 with hk | ha
        · left
          have : n = 0 := by omega
          subst this
          simp
        · refine .inr ⟨b, off, ha, ?_⟩
          have := DRM.of_row (b := b) m3 (J := fun a v => (subG g' T).I a v ∨ ∃ i, a = ⟨b, i, none⟩ ∧ us[i]? = some v) (fun _ _ h => .inl h) (fun j v h => .inr ⟨j, rfl, h⟩)
          have := (this.drop off).take (n * sz)
          rwa [Nat.zero_add] at this
      · refine ⟨fun a v h => .inl (t2.I a v h), t2.size, t2.same, t2.os, t2.tape, t2.output, fun i hi => (t2.cpt i hi).trans (Cpt.same rfl rfl), t2.len, t2.own, fun a v h => ?_⟩
        rcases h with h | ⟨i, rfl, _⟩
        · exact t2.news a v h
        · exact .inr (hnews.symm.imp _root_.id _root_.id)
/-- A function without a body, that leaves memory as it is. -/
theorem Pure.of_extern {f : FuncId} {fn : Func} {e : Array Value → Sem Value} (hf : P.funcs[f]? = some fn) (hname : (fn.name == "runtime.NumGoroutine") = false) (hb : fn.body.isNone = true) (hn : Extern.findNext fn = none) (he : Extern.find fn = some e) {args : List AV} {x : AV}
    (h : ∀ (g : Gh) (w : World) (vs : List Value), WR g [] w → VRL [] g args vs → ∃ v, (e vs.toArray).run P w = .ok v w ∧ VR [] g x v) : Go.Am.Pure P f args x := by
  intro g w vs hg hv
  obtain ⟨v, h1, h2⟩ := h g w vs hg hv
  unfold NextSem
  rw [run_callFunc_extern hf hname hb hn he, h1]
  exact ⟨g, [], x, h2, hg, Step.refl g [] w, rfl, rfl⟩
end Go.Am
