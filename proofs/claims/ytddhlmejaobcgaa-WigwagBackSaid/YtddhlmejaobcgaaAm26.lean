import Derived.Test.YtddhlmejaobcgaaAm25
set_option linter.unusedVariables false
set_option linter.unusedSimpArgs false
/- Moves of a walk over a heap. -/
namespace Go.Am
open Go
variable {P : Program}
theorem W.exL {p : List D → Prop} {k : List D → Res} {Q} (l : List D) (h : p l) (h2 : W P (k l) Q) : W P (.exL p k) Q := ⟨l, h, h2.out⟩
theorem W.exH {p : HMap → Prop} {k : HMap → Res} {Q} (H : HMap) (h : p H) (h2 : W P (k H) Q) : W P (.exH p k) Q := ⟨H, h, h2.out⟩
theorem W.fa {p : Nat → Prop} {k : Nat → Res} {Q} (h : ∀ n, p n → W P (k n) Q) : W P (.fa p k) Q := ⟨fun n hn => (h n hn).out⟩
theorem W.meth {t : TypeId} {v : Value} {name : String} {k : FuncId → Res} {Q} (f : FuncId) (h : ∀ (args : Array Value) w, (callMethod (.iface t v) name args).run P w = (callFunc f (#[v] ++ args)).run P w) (h2 : W P (k f) Q) : W P (.meth t v name k) Q := ⟨f, h, h2.out⟩
/-- A call that gets the heap and leaves it as it is: what was read of it stays. -/
theorem W.callH {f : FuncId} {args : List AV} {σ : Store} {L : List Nat} {k : AV → Store → Res} {Q : AExit → Fr → Store → Prop} {ep : Nat} {H : HMap} {r : Store} {x : AV} (hσ : σ = .heap ep H :: r)
    (h : CallOk P f args [.heap ep H] (fun v s => v = x ∧ s = [.heap ep H])) (ha : args.all AV.plain = true) (hx : x.closed = true) (hk : W P (k x σ) Q) : W P (.call f args σ L k) Q := by
  subst hσ
  refine ⟨[0], by simp, by simp, ?_⟩
  rw [subL_plain _ _ ha]
  refine CallOk.mono h fun v s ⟨h1, h2⟩ => ?_
  subst h1 h2
  have hm : mergeS (.heap ep H :: r) [0] [.heap ep H] = .heap ep H :: r := by
    unfold mergeS
    have h0 : ∀ (l : Store) (i : Nat), 0 < i → mergeGo [0] [.heap ep H] (r.length + 1) i l = l := by
      intro l
      induction l with
      | nil => intro i _; rfl
      | cons b t ih =>
        intro i hi
        rw [mergeGo]
        have : idx [0] i = none := idx_none (by simp; omega)
        rw [this, ih (i + 1) (by omega)]
    show mergeGo [0] [.heap ep H] (r.length + 1) 0 (.heap ep H :: r) ++ _ = _
    rw [mergeGo]
    have : idx [0] 0 = some 0 := rfl
    rw [this, h0 r 1 (by omega)]
    simp [Blk.sub]
  refine ⟨fun i hi => ?_, ?_⟩
  · by_cases e : i = 0
    · subst e
      exact .inr ⟨ep, H, H, rfl, by rw [hm]; rfl⟩
    · exact .inl (by simpa using e)
  · rw [closed_sub hx, hm]
    exact hk.out
/-- A body that starts with an empty heap. -/
theorem CallOk.heap {f : FuncId} {args : List AV} {R : AV → Prop} (hd : args.all AV.plain = true) (h : CallOk P f args [.heap 0 fun _ => none] fun v _ => R v) : CallOk P f args [] fun v _ => R v := by
  intro g w vs hw hv
  have hμ : g.μ = [] := List.eq_nil_of_length_eq_zero (by simpa using hw.len)
  have hw' : WR ⟨[.heap fun _ => none], g.I⟩ [.heap 0 fun _ => none] w := by
    refine ⟨rfl, fun i x c h1 h2 => ?_, hw.fact, fun i j c c' b h1 h2 h3 h4 => ?_, fun i c b h1 h2 => ?_, hw.glob⟩
    · cases i with
      | zero =>
        obtain rfl := Option.some.inj h1
        obtain rfl := Option.some.inj h2
        exact ⟨fun a => by simp, fun a o h => by (cases h), fun a v _ h => h rfl, fun a o h => by (cases h)⟩
      | succ i => simp at h1
    · cases i with
      | zero =>
        obtain rfl := Option.some.inj h1
        exact absurd rfl h3
      | succ i => simp at h1
    · cases i with
      | zero =>
        obtain rfl := Option.some.inj h1
        exact absurd rfl h2
      | succ i => simp at h1
  have hv' : VRL [.heap 0 fun _ => none] ⟨[.heap fun _ => none], g.I⟩ args vs := VRL.mono (σ := []) (g := g) (σ' := [.heap 0 fun _ => none]) (g' := ⟨[.heap fun _ => none], g.I⟩) (fun _ _ h => h) (fun i hi => by rw [hμ] at hi; exact absurd hi (Nat.not_lt_zero _)) _ _ hv
  refine (h _ w vs hw' hv').mono fun v w' ⟨g', σ', av, h1, h2, h3, h4⟩ => ⟨g', σ', av, h1, h2, ?_, h4⟩
  have none_owned : ∀ (i : Nat) (c : Cn) (b : Nat), [Cn.heap fun _ => none][i]? = some c → ¬ c.owns b := fun i c b h1 h2 => by
    cases i with
    | zero =>
      obtain rfl := Option.some.inj h1
      exact absurd rfl h2
    | succ i => simp at h1
  refine ⟨h3.I, h3.size, fun b hb _ => h3.same b hb fun i c hc => none_owned i c b hc, h3.os, h3.tape, h3.output, fun i hi => ?_, ?_, fun i c b hc hb => ?_, fun a v ha => ?_⟩
  · rw [hμ] at hi; exact absurd hi (Nat.not_lt_zero _)
  · rw [hμ]; exact Nat.zero_le _
  · rcases h3.own i c b hc hb with ⟨j, c', k1, k2⟩ | k
    · exact absurd k2 (none_owned j c' b k1)
    · exact .inr k
  · rcases h3.news a v ha with k | ⟨j, c', k1, k2⟩ | k
    · exact .inl k
    · exact absurd k2 (none_owned j c' _ k1)
    · exact .inr (.inr k)
theorem HMap.upd_self (H : HMap) (a : Nat) (o : HObj) : H.upd a o a = some o := by simp [HMap.upd]
theorem HMap.upd_ne (H : HMap) {a x : Nat} (o : HObj) (h : x ≠ a) : H.upd a o x = H x := by simp [HMap.upd, h]
/-- The heap alone is handed back. -/
theorem RetQ.heap {e : AExit} {v x : AV} {ep : Nat} {H : HMap} {r : Store} (hx : x.closed = true) (h : v = x) : RetQ 1 (fun v s => v = x ∧ s = [.heap ep H]) e [(0, v)] (.heap ep H :: r) := by
  subst h
  exact RetQ.part [0] (by simp) (by simp) (fun i hi => by obtain rfl : i = 0 := by omega
                                                          rfl) ⟨closed_sub hx _ _, rfl⟩
theorem HMap.upd_upd (H : HMap) (a : Nat) (o o' : HObj) : (H.upd a o).upd a o' = H.upd a o' := by
  funext x
  unfold HMap.upd
  by_cases h : x = a
  · rw [if_pos h, if_pos h]
  · rw [if_neg h, if_neg h, if_neg h]
/-- A nil slice goes on as a row of which the elements may be written. -/
theorem new_nilrow {g : Gh} {σ : Store} {w : World} (hw : WR g σ w) (sz : Nat) :
    ∃ g', VR (σ ++ [.row sz 0 []]) g' (.row σ.length 0 0 0) (.slice none 0 0) ∧ WR g' (σ ++ [.row sz 0 []]) w ∧ Step g σ w g' (σ ++ [.row sz 0 []]) w := by
  have hno : ∀ b, ¬ (Cn.row 0 0).owns b := fun b h => h
  obtain ⟨h3, h4⟩ := hw.push (x := .row sz 0 []) (c := .row 0 0) ⟨Nat.zero_le _, .inl rfl⟩ (fun b h => absurd h (hno b))
  refine ⟨_, ⟨0, 0, sz, 0, [], none, 0, ?_, ?_, rfl, Nat.le_refl _, .inl rfl, Nat.le_refl _, fun _ => ⟨by simp, .inl rfl⟩⟩, h3, (Step.refl g σ w).push h4 fun b hb => absurd hb (hno b)⟩
  · rw [← hw.len]; simp
  · simp
theorem Start.rowN (l : List Nat) (t sz : Nat) {fr : Fr} {σ : Store} (h : fr.get t = .d (.lit (.slice none 0 0))) :
    Start fr σ ((t, .row σ.length 0 0 0) :: keepFr (fun v => v) fr l []) (σ ++ [.row sz 0 []]) := by
  intro g w hw
  obtain ⟨g', h1, h2, h3⟩ := new_nilrow hw sz
  refine ⟨g', h2, h3, fun t' v hv => ?_⟩
  unfold Fr.get
  cases ht : Nat.beq t t' with
  | true =>
    obtain rfl := Nat.eq_of_beq_eq_true ht
    rw [h] at hv
    rw [hv.lit]
    exact h1
  | false =>
    rcases keepFr_get (fun v => v) fr l [] t' with e | e
    · show VR _ g' (Fr.get (keepFr (fun v => v) fr l []) t') v
      rw [e]; exact h3.vr hv
    · show VR _ g' (Fr.get (keepFr (fun v => v) fr l []) t') v
      rw [e]; exact True.intro
/-- How often a row moved doesn't matter to a callee that gets it. -/
theorem CallOk.epoch {f : FuncId} {n sz : Nat} {cs : List D} {Q : List D → Prop} (h : CallOk P f [.row 0 1 0 n] [.row sz 1 cs] (fun v s => v = .tuple [] ∧ ∃ cs', s = [.row sz 1 cs'] ∧ Q cs')) (e : Nat) :
    CallOk P f [.row 0 e 0 n] [.row sz e cs] (fun v s => v = .tuple [] ∧ ∃ cs', s = [.row sz e cs'] ∧ Q cs') := by
  have wr : ∀ {g : Gh} {w : World} {a b : Nat} {cs : List D}, WR g [.row sz a cs] w → WR g [.row sz b cs] w := fun {g w a b cs} hw => by
    refine ⟨hw.len, fun i x c h1 h2 => ?_, hw.fact, hw.dist, hw.inb, hw.glob⟩
    cases i with
    | zero =>
      obtain rfl := Option.some.inj h1
      have := hw.blk 0 _ c rfl h2
      cases c with
      | row b' cap => exact this
      | _ => exact this.elim
    | succ i => simp at h1
  intro g w vs hw hv
  obtain ⟨v, r, rfl, hv1, hr⟩ := hv
  obtain ⟨b, cap, sz', e', cs', a, k, q1, q2, q3, q4, q5, q6, q7⟩ := hv1
  have q2' : some (Blk.row sz e cs) = some (Blk.row sz' e' cs') := q2
  injection q2' with q2'
  injection q2' with z1 z2 z3
  subst z1 z2 z3
  refine (h g w (v :: r) (wr hw) ⟨v, r, rfl, ⟨b, cap, sz, 1, cs, a, k, q1, rfl, q3, q4, q5, Nat.le_refl _, fun _ => q7 rfl⟩, hr⟩).mono fun u w' ⟨g', s, av, h1, h2, h3, h4, cs2, h5, h6⟩ => ?_
  subst h4 h5
  obtain ⟨us, hu, hul⟩ := h1
  refine ⟨g', [.row sz e cs2], .tuple [], ⟨us, hu, hul⟩, wr h2, ⟨h3.I, h3.size, h3.same, h3.os, h3.tape, h3.output, fun i hi => ?_, h3.len, h3.own, h3.news⟩, rfl, cs2, rfl, h6⟩
  have hi0 : i = 0 := by have := hw.len; simp at this; omega
  subst hi0
  obtain ⟨b', cap', e2, cs3, k1, k2, k3, k4⟩ := (h3.cpt 0 hi).2.2.2.2.1 b cap sz 1 cs q1 rfl
  have k2' : some (Blk.row sz 1 cs2) = some (Blk.row sz e2 cs3) := k2
  injection k2' with k2'
  injection k2' with _ z2 z3
  subst z2 z3
  obtain ⟨rfl, rfl⟩ := k4 rfl
  refine ⟨fun c h => ?_, fun c h => ?_, fun c h => ?_, fun s sz m cs h _ => ?_, fun b2 cap2 sz2 e3 cs3 h h' => ?_, fun sn e3 H3 h _ => ?_⟩
  · rw [q1] at h; cases h
  · rw [q1] at h; cases h
  · rw [q1] at h; cases h
  · rw [q1] at h; cases h
  · rw [q1] at h
    injection h with h
    injection h with h1 h2
    subst h1 h2
    have h' : some (Blk.row sz e cs) = some (Blk.row sz2 e3 cs3) := h'
    injection h' with h'
    injection h' with z1 z2 z3
    subst z1 z2 z3
    exact ⟨b', cap', e, cs2, k1, rfl, Nat.le_refl _, fun _ => ⟨rfl, rfl⟩⟩
  · rw [q1] at h; cases h
end Go.Am
