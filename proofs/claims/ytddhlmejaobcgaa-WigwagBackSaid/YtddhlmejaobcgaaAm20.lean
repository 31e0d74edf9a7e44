/- The abstract machine 'Am': maps. -/
import Derived.Test.YtddhlmejaobcgaaAm13
set_option linter.unusedVariables false
set_option linter.unusedSimpArgs false
namespace Go.Am
open Go
variable {P : Program} {ty : Tys}

/-- A map is made. -/
theorem new_map {g : Gh} {σ : Store} {w : World} (hw : WR g σ w) (ag : Bool) :
    ∃ g', VR (σ ++ [.map ag []]) g' (.map σ.length) (.map (some w.heap.size)) ∧ WR g' (σ ++ [.map ag []]) (w.alloc (.map #[] 0)) ∧ Step g σ w g' (σ ++ [.map ag []]) (w.alloc (.map #[] 0)) := by
  obtain ⟨h1, h2⟩ := hw.alloc (.map #[] 0)
  have hnew : (w.alloc (.map #[] 0)).heap[w.heap.size]? = some (.map #[] 0) := heap_alloc_new w _
  have hfree : ∀ b, (Cn.map w.heap.size).owns b → b < (w.alloc (.map #[] 0)).heap.size ∧ ∀ (i : Nat) c', g.μ[i]? = some c' → ¬ c'.owns b := fun b hb => by
    obtain rfl : w.heap.size = b := by simpa [Cn.owns] using hb
    refine ⟨by simp, fun i c' hi e => ?_⟩
    have := hw.inb i c' _ hi e
    omega
  obtain ⟨h3, h4⟩ := h1.push (x := .map ag []) (c := .map w.heap.size) ⟨⟨#[], 0, hnew, rfl⟩, fun a v ha e => by
    have := World.block_lt_of_cell? w a (hw.fact a v ha)
    omega⟩ hfree
  refine ⟨_, ⟨w.heap.size, ?_, rfl⟩, h3, h2.push h4 fun b hb => ?_⟩
  · rw [← hw.len]; simp
  · obtain rfl : w.heap.size = b := by simpa [Cn.owns] using hb
    exact Nat.le_refl _
theorem ok_makeMap (hty : TysOk P ty) {o : Oper} {t : TypeId} {r : Option Operand} (ho : o.op = .makeMap t r) : OpOk P ty o := by
  intro ev ρ L σ K Q g w hev hw h
  unfold opR at h
  rw [ho] at h
  cases r with
  | some r => exact h.elim
  | none =>
    dsimp only at h
    have run : (execOp ρ o).run P w = .ok (.value (.map (some w.heap.size))) (w.alloc (.map #[] 0)) := by
      simp [execOp, ho, Instr.makeMap, newObj, Sem.run]
    cases hf : isHeapTy ty t with
    | true =>
      simp only [hf, cond_true] at h
      split at h <;> try exact h.elim
      rename_i ep H r
      obtain ⟨g', k1, k2, k3⟩ := heap_new hw (.imap [] 0) (.map #[] 0) ⟨heap_alloc_new w _, List.nodup_nil, fun e he => by cases he⟩
      exact OpSem.value run ⟨g', _, _, vr_lit _, k1, k2, k3 L, h _ (heap_fresh hw (Nat.le_refl _))⟩
    | false =>
    simp only [hf, cond_false] at h
    split at h <;> try exact h.elim
    split at h <;> try exact h.elim
    split at h
    · simp only [lenK_eq, forceL_eq, Nat.zero_add] at h
      obtain ⟨g', h1, h2, h3⟩ := new_map hw true
      exact OpSem.value run ⟨g', _, _, h1, h2, h3, Keep.old hw (fun b hb => heap_alloc_old w _ hb) L, h⟩
    · simp only [lenK_eq, forceL_eq, Nat.zero_add] at h
      obtain ⟨g', h1, h2, h3⟩ := new_map hw false
      exact OpSem.value run ⟨g', _, _, h1, h2, h3, Keep.old hw (fun b hb => heap_alloc_old w _ hb) L, h⟩

/-! ### keys -/
theorem ba_eq {a b : ByteArray} (h : (a == b) = true) : a = b := by
  have : (a.data == b.data) = true := h
  cases a; cases b
  simp at this
  simp [this]
theorem ba_refl (a : ByteArray) : (a == a) = true := by
  show (a.data == a.data) = true
  simp
/-- A kind of keys, and the machine's own. -/
def KK (kc : CK) (kd : TypeDesc) : Prop := (∃ k, kc = .int k ∧ kd = .int k) ∨ (kc = .str ∧ kd = .string)
theorem keyK_und {t : TypeId} {i : TyI} {kc : CK} (h : tyB P t i = true) (hk : keyK i = some kc) : ∃ kd, P.underlying t = some kd ∧ KK kc kd := by
  unfold keyK at hk
  split at hk <;> try (cases hk; done)
  · rename_i k h1 h2
    obtain rfl := Option.some.inj hk
    exact ⟨_, und_int h h1 h2, .inl ⟨k, rfl, rfl⟩⟩
  · rename_i h1 h2
    obtain rfl := Option.some.inj hk
    exact ⟨_, und_str h h1, .inr ⟨rfl, rfl⟩⟩
theorem sameNow_ok {I : Facts} {kc : CK} {kd : TypeDesc} (hkd : KK kc kd) {a b : D} {u v : Value} (ha : DR I a u) (hb : DR I b v) (oa : kc.ok a) (ob : kc.ok b) :
    Instr.sameNow kd u v = some (sameK kc a b) ∧ (sameK kc a b = true → v = u) ∧ Instr.sameBits 10000 u u = true := by
  rcases hkd with ⟨k, rfl, rfl⟩ | ⟨rfl, rfl⟩
  · have oa : a = .lit (.int k a.toI) := oa
    have ob : b = .lit (.int k b.toI) := ob
    rw [oa] at ha
    rw [ob] at hb
    obtain rfl := ha.lit
    obtain rfl := hb.lit
    refine ⟨by simp [Instr.sameNow, sameK], fun h => ?_, by simp [Instr.sameBits]⟩
    simp only [sameK, beq_iff_eq] at h
    rw [h]
  · have oa : a = .lit (.string a.toS) := oa
    have ob : b = .lit (.string b.toS) := ob
    rw [oa] at ha
    rw [ob] at hb
    obtain rfl := ha.lit
    obtain rfl := hb.lit
    refine ⟨by simp [Instr.sameNow, sameK], fun h => ?_, by simp [Instr.sameBits, ba_refl]⟩
    simp only [sameK] at h
    rw [ba_eq h]
theorem findNow_ok {I : Facts} {kc : CK} {kd : TypeDesc} (hkd : KK kc kd) {kx : D} {kv : Value} (hk : DR I kx kv) (ok : kc.ok kx) {ag : Bool} (ds : List D) : ∀ {es : List (D × List D)} {l : List MapEntry} (i : Nat), MapR I ag es l → (∀ e ∈ es, kc.ok e.1) →
    (findM kc kx es = none ∧ Instr.findNow kd kv l i = some none ∧ setM kc kx ds es = es ++ [(kx, ds)]) ∨
    ∃ j m cs, findM kc kx es = some cs ∧ Instr.findNow kd kv l i = some (some (i + j, m.val)) ∧ l[j]? = some m ∧ ElR I ag cs m.val ∧ m.key = kv ∧ setM kc kx ds es = es.set j (kx, ds)
  | [], l, i, h, _ => by
    rw [MapR] at h
    subst h
    exact .inl ⟨rfl, rfl, rfl⟩
  | e :: es, _, i, ⟨m, r, rfl, ⟨k1, k2⟩, k⟩, ho => by
    obtain ⟨h1, h2, _⟩ := sameNow_ok hkd hk k1 ok (ho e (by simp))
    cases hs : sameK kc kx e.1 with
    | true =>
      rw [hs] at h1
      exact .inr ⟨0, m, e.2, by simp [findM, hs], by simp [Instr.findNow, h1], rfl, k2, h2 hs, by simp [setM, hs]⟩
    | false =>
      rw [hs] at h1
      rcases findNow_ok hkd hk ok ds (i + 1) k (fun e he => ho e (by simp [he])) with ⟨a, b, c⟩ | ⟨j, m', cs, a, b, c, d, e', f⟩
      · exact .inl ⟨by simp [findM, hs, a], by simp [Instr.findNow, h1, b], by simp [setM, hs, c]⟩
      · refine .inr ⟨j + 1, m', cs, by simp [findM, hs, a], ?_, by simpa using c, d, e', by simp [setM, hs, f]⟩
        simp only [Instr.findNow, h1, b]
        congr 3
        omega
theorem run_checkKey {kc : CK} {kd : TypeDesc} {t : TypeId} (hu : P.underlying t = some kd) (hkd : KK kc kd) (b : Bool) (v : Value) (w : World) : (Instr.checkKey b 10000 t v).run P w = .ok () w := by
  rcases hkd with ⟨k, rfl, rfl⟩ | ⟨rfl, rfl⟩
  · unfold Instr.checkKey
    rw [Sem.run_bind, run_underlying hu]
    cases v <;> rfl
  · unfold Instr.checkKey
    rw [Sem.run_bind, run_underlying hu]
    cases v <;> rfl
theorem run_findKey {kd : TypeDesc} {t : TypeId} (hu : P.underlying t = some kd) {v : Value} {l : List MapEntry} {r : Option (Nat × Value)} (h : Instr.findNow kd v l 0 = some r) (w : World) : (Instr.findKey t v l).run P w = .ok r w := by
  unfold Instr.findKey
  rw [Sem.run_bind, run_underlying hu]
  simp [h]

/-! ### reading -/
theorem formed_drl {I : Facts} {cs : List D} : ∀ {ks : List CK} {off : Nat} {vs : List Value}, formedOk cs ks off → off + ks.length = cs.length → DRL I (cs.drop off) vs → DRL I (formed cs ks off) vs
  | [], off, vs, _, hl, h => by
    rw [List.drop_of_length_le (by simp at hl; omega)] at h
    exact h
  | k :: ks, off, vs, ⟨h1, h2⟩, hl, h => by
    simp only [List.length_cons] at hl
    rw [List.drop_eq_getElem_cons (by omega)] at h
    obtain ⟨v, r, e, hv, hr⟩ := h
    subst e
    have hrd : rdD cs off = cs[off] := by simp [rdD, List.getD_eq_getElem?_getD, List.getElem?_eq_getElem (show off < cs.length from by omega)]
    refine ⟨v, r, rfl, ?_, formed_drl h2 (by omega) hr⟩
    have : k.form (rdD cs off) = cs[off] := by
      rw [hrd] at h1 ⊢
      cases k <;> first | exact h1.symm | rfl
    rw [this]
    exact hv
theorem entR_ok {σ : Store} {g : Gh} {i : TyI} {ok : Bool} {cs : List D} {there : Bool} {K : AV → Res} {Q : AExit → Fr → Store → Prop} {v : Value} (hv : ElR g.I i.agg cs v) (h : (entR i ok cs there K).wp P Q) :
    ∃ av, VR σ g av (bif ok then .tuple #[v, .bool there] else v) ∧ (K av).wp P Q := by
  unfold entR at h
  cases hb : Nat.beq i.kinds.length i.size with
  | false => simp only [hb, cond_false] at h; exact h.elim
  | true =>
    have hlen := Nat.eq_of_beq_eq_true hb
    simp only [hb, cond_true] at h
    obtain ⟨⟨h1, h2⟩, h⟩ := h
    have fin : ∀ {x : AV}, VR σ g x v → (bif ok then K (.tuple [x, .d (.lit (.bool there))]) else K x).wp P Q → ∃ av, VR σ g av (bif ok then .tuple #[v, .bool there] else v) ∧ (K av).wp P Q := fun {x} hx h => by
      cases ok with
      | true => exact ⟨.tuple [x, .d (.lit (.bool there))], (show VR σ g (.tuple [x, .d (.lit (.bool there))]) (.tuple #[v, .bool there]) from ⟨[v, .bool there], rfl, v, _, rfl, hx, _, [], rfl, vr_lit _, rfl⟩), h⟩
      | false => exact ⟨_, hx, h⟩
    cases ha : i.agg with
    | true =>
      rw [ha] at h hv
      obtain ⟨vs, rfl, hd⟩ := hv
      simp only [cond_true, forceL_eq] at h
      exact fin (x := .d (.agg (formed cs i.kinds 0))) ⟨vs, rfl, formed_drl h2 (by omega) (by simpa using hd)⟩ h
    | false =>
      rw [ha] at h hv
      obtain ⟨x, rfl, hd, _⟩ := hv
      simp only [cond_false] at h
      split at h <;> try exact h.elim
      rename_i y hy
      rw [AV.force_eq] at h
      have := formed_drl (I := g.I) (vs := [v]) h2 (by simp at h1; simp; omega) (show DRL g.I ([x].drop 0) [v] from ⟨v, [], rfl, hd, rfl⟩)
      rw [hy] at this
      obtain ⟨v', r, e, hy', _⟩ := this
      obtain ⟨rfl, rfl⟩ : v = v' ∧ [] = r := by simpa using e
      exact fin (x := .d y) hy' h
theorem lits_drl' {I : Facts} : ∀ l : List Value, DRL I (l.map .lit) l
  | [] => rfl
  | v :: r => ⟨v, r, rfl, rfl, lits_drl' r⟩
theorem zero_el {I : Facts} {t : TypeId} {i : TyI} (hz : elemZ P t = true) (h : tyB P t i = true) : ∃ z, (∀ w, (zeroValue t).run P w = .ok z w) ∧ ElR I i.agg (i.zero.map .lit) z := by
  obtain ⟨inf, z, h1, h2, h3, h4⟩ := ty_info h
  obtain ⟨d, hu, ha⟩ := ty_und h
  refine ⟨z, fun w => by simp [zeroValue, typeInfo, h1, h3], ?_⟩
  simp only [elemZ, h1, h3, hu] at hz
  have flat : (∀ cs, z ≠ .agg cs) → (∀ cs, z ≠ .tuple cs) → i.agg = false → ElR I i.agg (i.zero.map .lit) z := fun n1 n2 e => by
    have hc : z.cells = #[z] := by cases z <;> first | rfl | exact absurd rfl (n1 _)
    rw [hc] at h4
    rw [e, ← h4]
    exact ⟨.lit z, rfl, rfl, by cases z <;> first | rfl | exact absurd rfl (n1 _) | exact absurd rfl (n2 _)⟩
  cases z with
  | agg vs =>
    have ha : i.agg = true := by rw [ha]; cases d <;> first | rfl | (simp at hz)
    rw [ha, ← h4]
    exact ⟨vs.toList, by simp, by show DRL I (vs.toList.map .lit) vs.toList; exact lits_drl' _⟩
  | tuple vs => cases d <;> simp at hz
  | _ => exact flat (fun _ e => by cases e) (fun _ e => by cases e) (by rw [ha]; cases d <;> first | rfl | (simp at hz))
theorem run_getObj_map' {w : World} {r : Nat} {es : Array MapEntry} {clock : Nat} (hb : w.heap[r]? = some (.map es clock)) : (getObj r).run P w = .ok (.map es clock) w := by
  simp [getObj, Sem.run, hb]

theorem look_find (n : Int) : ∀ (es : List (Int × Nat × Nat)) (i : Nat),
    (look es n = .lit (.pointer none) ∧ (∀ e ∈ es, e.1 ≠ n) ∧ Instr.findNow (.int .i64) (.int .i64 n) (es.map mE) i = some none) ∨
    ∃ j a, look es n = .lit (.pointer (some a)) ∧ Instr.findNow (.int .i64) (.int .i64 n) (es.map mE) i = some (some (j, .pointer (some a)))
  | [], i => .inl ⟨rfl, (fun e h => by cases h), rfl⟩
  | e :: es, i => by
    by_cases he : e.1 = n
    · right
      refine ⟨i, ⟨e.2.1, 0, none⟩, ?_, ?_⟩
      · unfold look; rw [List.find?_cons]; simp [he]
      · simp [mE, Instr.findNow, Instr.sameNow, he]
    · have h1 : look (e :: es) n = look es n := by
        unfold look; rw [List.find?_cons]
        have : (e.1 == n) = false := beq_eq_false_iff_ne.2 he
        rw [this]
      have h2 : Instr.findNow (.int .i64) (.int .i64 n) ((e :: es).map mE) i = Instr.findNow (.int .i64) (.int .i64 n) (es.map mE) (i + 1) := by
        have : (n == e.1) = false := beq_eq_false_iff_ne.2 (fun h => he h.symm)
        simp [mE, Instr.findNow, Instr.sameNow, this]
      rw [h1, h2]
      rcases look_find n es (i + 1) with ⟨a, b, c⟩ | h
      · refine .inl ⟨a, fun x hx => ?_, c⟩
        rcases List.mem_cons.1 hx with rfl | hx
        · exact he
        · exact b x hx
      · exact .inr h
theorem ok_lookup (hty : TysOk P ty) {o : Oper} {t : TypeId} {m ix : Operand} {ok : Bool} (ho : o.op = .lookup t m ix ok) : Quiet P ty o := by
  intro ev ρ L σ K Q g w hev hw h
  unfold opR at h
  rw [ho] at h
  dsimp only at h
  have hm := hev m
  have hx := hev ix
  generalize hem : ev m = am at h hm
  generalize ev ix = ax at h hx
  unfold lookupR at h
  split at h <;> try exact h.elim
  rename_i kt et inf hi
  split at h <;> try exact h.elim
  rename_i ki ei kx hki hei
  split at h <;> try exact h.elim
  rename_i kc hkc
  obtain ⟨hu, hz⟩ := und_map' (hty.ok _ _ hi) rfl
  obtain ⟨kd, hku, hkk⟩ := keyK_und (hty.ok _ _ hki) hkc
  obtain ⟨z, hzr, hze⟩ := zero_el (P := P) (I := g.I) hz (hty.ok _ _ hei)
  have hck := fun b w => run_checkKey (P := P) hku hkk b (ρ ix) w
  split at h <;> try exact h.elim
  · have em := hm.lit
    obtain ⟨av, h1, h2⟩ := entR_ok hze h
    have hf := fun w => run_findKey (P := P) (v := ρ ix) (l := []) hku (r := none) (by rfl) w
    refine quiet_ok hw (v := bif ok then .tuple #[z, .bool false] else z) (fun w' _ => ?_) h1 h2
    simp [execOp, ho, Instr.lookup, run_underlying hu, em, hck, hf, hzr]
  · rename_i b
    have em := hm.lit
    cases ok with
    | true => exact h.elim
    | false =>
      simp only [cond_false] at h
      unfold lookHR at h
      split at h <;> try exact h.elim
      rename_i ep H r n hk hd hzz hkx
      rw [hkc] at hk
      obtain rfl := Option.some.inj hk
      have hkd : kd = .int .i64 := by
        rcases hkk with ⟨k, e1, e2⟩ | ⟨e1, _⟩
        · injection e1 with e1
          rw [e2, e1]
        · cases e1
      subst hkd
      have ex : ρ ix = .int .i64 n := by
        injection hkx with hkx
        rw [hkx] at hx
        exact hx.lit
      simp only [ex] at hck
      obtain ⟨l, ⟨es, c, hH, rfl⟩, h⟩ := h
      simp only [AV.force_eq] at h
      obtain ⟨dom, d1, d2, d3, d4, _⟩ := heap_at hw (H := H) rfl
      obtain ⟨k1, k2, k3⟩ := d3 b _ hH
      have hro : readsOf o ev = [0] := by unfold readsOf; rw [ho]; simp only [hem]
      have hget : ∀ w', Meets g (.heap ep H :: r) (readsOf o ev) w w' → (getObj b).run P w' = .ok (.map (es.map mE).toArray c) w' := fun w' hm => by
        rw [hro] at hm
        refine run_getObj_map' ?_
        rw [hm.hp 0 (by simp) dom ep H d1 rfl b ((d2 b).2 (by rw [hH]; simp))]
        exact k1
      have hagg : ei.agg = false := by
        obtain ⟨e, he⟩ := und_ptr (hty.ok _ _ hei) hd
        obtain ⟨d, hd1, hd2⟩ := ty_und (hty.ok _ _ hei)
        rw [he] at hd1
        obtain rfl := Option.some.inj hd1
        exact hd2
      have hz0 : z = .pointer none := by
        rw [hagg, hzz] at hze
        obtain ⟨x, e1, e2, _⟩ := hze
        obtain rfl : D.lit (.pointer none) = x := by simpa using e1
        exact e2
      rcases look_find n es 0 with ⟨a, _, bb⟩ | ⟨j, ad, a, bb⟩
      · rw [a] at h
        have hf := fun w => run_findKey (P := P) hku bb w
        refine quiet_ok hw (v := .pointer none) (fun w' hm => ?_) (vr_lit _) h
        simp [execOp, ho, Instr.lookup, run_underlying hu, em, hget w' hm, hck, ex, hf, hzr, hz0]
      · rw [a] at h
        have hf := fun w => run_findKey (P := P) hku bb w
        refine quiet_ok hw (v := .pointer (some ad)) (fun w' hm => ?_) (vr_lit _) h
        simp [execOp, ho, Instr.lookup, run_underlying hu, em, hget w' hm, hck, ex, hf]
  · rename_i id
    split at h <;> try exact h.elim
    rename_i ag es hs
    cases hag : ag == ei.agg with
    | false => simp only [hag, cond_false] at h; exact h.elim
    | true =>
      simp only [hag, cond_true] at h
      have hag : ag = ei.agg := eq_of_beq hag
      obtain ⟨⟨o1, o2⟩, h⟩ := h
      obtain ⟨b, hb, em⟩ := hm
      obtain ⟨⟨arr, clock, hheap, hmap⟩, _⟩ := hw.blk _ _ _ hs hb
      have hro : readsOf o ev = [id] := by unfold readsOf; rw [ho]; simp only [hem]
      have hget : ∀ w', Meets g σ (readsOf o ev) w w' → (getObj b).run P w' = .ok (.map arr clock) w' := fun w' hm => by
        rw [hro] at hm
        refine run_getObj_map' ?_
        rw [hm.map id (by simp) b hb]
        exact hheap
      rcases findNow_ok hkk hx o1 [] 0 hmap o2 with ⟨a, bb, _⟩ | ⟨j, me, cs, a, bb, c, d, e, _⟩
      · rw [a] at h
        obtain ⟨av, h1, h2⟩ := entR_ok hze h
        have hf := fun w => run_findKey (P := P) hku bb w
        refine quiet_ok hw (v := bif ok then .tuple #[z, .bool false] else z) (fun w' hm => ?_) h1 h2
        simp [execOp, ho, Instr.lookup, run_underlying hu, em, hget w' hm, hck, hf, hzr]
      · rw [a] at h
        rw [hag] at d
        obtain ⟨av, h1, h2⟩ := entR_ok d h
        have hf := fun w => run_findKey (P := P) hku bb w
        refine quiet_ok hw (v := bif ok then .tuple #[me.val, .bool true] else me.val) (fun w' hm => ?_) h1 h2
        simp [execOp, ho, Instr.lookup, run_underlying hu, em, hget w' hm, hck, hf]

/-! ### writing -/
theorem MapR.push {I : Facts} {ag : Bool} {e : D × List D} {m : MapEntry} (hm : KeyR I ag e m) : ∀ {es : List (D × List D)} {l : List MapEntry}, MapR I ag es l → MapR I ag (es ++ [e]) (l ++ [m])
  | [], l, h => by rw [MapR] at h; subst h; exact ⟨m, [], rfl, hm, rfl⟩
  | e' :: es, _, ⟨m', r, rfl, k1, k2⟩ => ⟨m', _, rfl, k1, MapR.push hm k2⟩
theorem MapR.set {I : Facts} {ag : Bool} {e : D × List D} {m : MapEntry} (hm : KeyR I ag e m) : ∀ {es : List (D × List D)} {l : List MapEntry} (j : Nat), MapR I ag es l → MapR I ag (es.set j e) (l.set j m)
  | [], l, j, h => by rw [MapR] at h; subst h; rfl
  | e' :: es, _, 0, ⟨m', r, rfl, k1, k2⟩ => ⟨m, r, rfl, hm, k2⟩
  | e' :: es, _, j + 1, ⟨m', r, rfl, k1, k2⟩ => ⟨m', _, rfl, k1, MapR.set hm j k2⟩
theorem run_setObj_map' {w : World} {r : Nat} {es : Array MapEntry} {clock : Nat} (o : Obj) (hb : w.heap[r]? = some (.map es clock)) : (setObj r o).run P w = .ok () { w with heap := w.heap.setIfInBounds r o } := by
  simp [setObj, Sem.run, hb]
theorem Cpt.of_map {σ : Store} {g : Gh} {σ' : Store} {g' : Gh} {i b : Nat} (hb : g.μ[i]? = some (.map b)) (hb' : g'.μ[i]? = some (.map b)) : Cpt σ g σ' g' i i := by
  refine ⟨fun c h => ?_, fun c h => ?_, fun c h => ?_, fun s sz m cs h _ => ?_, fun b2 cap sz e cs h _ => ?_, fun sn e3 H3 h _ => ?_⟩
  rotate_right 2
  · rw [hb] at h; cases h
  · rw [hb] at h; cases h
  · rw [hb] at h; cases h
  · rw [hb] at h; rw [hb']; exact h
  · rw [hb] at h; cases h
  · rw [hb] at h; cases h
theorem map_turn {σ : Store} {g : Gh} {w : World} (hw : WR g σ w) {id b : Nat} {ag : Bool} {es es' : List (D × List D)} {arr arr' : Array MapEntry} {clock clock' : Nat} (hs : σ[id]? = some (.map ag es)) (hb : g.μ[id]? = some (.map b))
    (hheap : w.heap[b]? = some (.map arr clock)) (hnotI : ∀ a v, g.I a v → a.block ≠ b) (hm : MapR g.I ag es' arr'.toList) :
    ∃ g', WR g' (σ.set id (.map ag es')) { w with heap := w.heap.setIfInBounds b (.map arr' clock') } ∧ Step g σ w g' (σ.set id (.map ag es')) { w with heap := w.heap.setIfInBounds b (.map arr' clock') } ∧
      ∀ L, id ∉ L → Keep g σ (σ.set id (.map ag es')) w { w with heap := w.heap.setIfInBounds b (.map arr' clock') } L := by
  have hlt : b < w.heap.size := (Array.getElem?_eq_some_iff.1 hheap).1
  have hother : ∀ c, c ≠ b → (w.heap.setIfInBounds b (.map arr' clock'))[c]? = w.heap[c]? := fun c hc => Array.getElem?_setIfInBounds_ne (Ne.symm hc)
  refine ⟨_, hw.turn (w' := { w with heap := w.heap.setIfInBounds b (.map arr' clock') }) (x' := .map ag es') (c' := .map b) hs hb (J := g.I) (fun _ _ h => h)
    (fun a v ha => by
      rw [World.cell?_of_block (w := w) (hother a.block (hnotI a v ha))]
      exact hw.fact a v ha)
    (Cpt.of_map hb (List.getElem?_set_self (List.getElem?_eq_some_iff.1 hb).1))
    (fun hall => ⟨⟨arr', clock', by simp [hlt], hm⟩, hnotI⟩)
    (by simp) (fun b' hb' hne => hother b' (fun e => hne (by rw [e]; rfl))) (fun b' h' => .inl h') (fun a v ha => .inl ha) ⟨rfl, rfl, rfl⟩⟩
theorem ok_mapUpdate (hty : TysOk P ty) {o : Oper} {t : TypeId} {m k x : Operand} (ho : o.op = .mapUpdate t m k x) : OpOk P ty o := by
  intro ev ρ L σ K Q g w hev hw h
  unfold opR at h
  rw [ho] at h
  dsimp only at h
  have hm := hev m
  have hk := hev k
  have hkx := hk
  have hx := hev x
  generalize ev m = am at h hm
  generalize ev k = ak at h hk hkx
  generalize ev x = ax at h hx
  unfold mapUpdR at h
  split at h <;> try exact h.elim
  rename_i kt et inf hi
  split at h <;> try exact h.elim
  · rename_i ki b hki
    have em := hm.lit
    unfold updHR at h
    split at h <;> try exact h.elim
    rename_i ep H r n a hk0
    cases hn : notIn L 0 with
    | false => simp only [hn, cond_false] at h; exact h.elim
    | true =>
      simp only [hn, cond_true] at h
      obtain ⟨hu, hz⟩ := und_map' (hty.ok _ _ hi) rfl
      obtain ⟨kd, hku, hkk⟩ := keyK_und (hty.ok _ _ hki) hk0
      have hkd : kd = .int .i64 := by
        rcases hkk with ⟨k, e1, e2⟩ | ⟨e1, _⟩
        · injection e1 with e1
          rw [e2, ← e1]
        · cases e1
      subst hkd
      have hck := fun b => run_checkKey (P := P) hku hkk b (ρ k) w
      have ek : ρ k = .int .i64 n := hkx.lit
      simp only [ek] at hck
      have ex : ρ x = .pointer (some ⟨a, 0, none⟩) := hx.lit
      obtain ⟨H', ⟨es, c, hH, hno, rfl⟩, h⟩ := h
      obtain ⟨k1, k2, k3⟩ := heap_hr hw hH
      have hget := run_getObj_map' (P := P) k1
      have hset := fun o => run_setObj_map' (P := P) o k1
      have hf : Instr.findNow (.int .i64) (.int .i64 n) (es.map mE) 0 = some none := by
        rcases look_find n es 0 with ⟨_, _, h⟩ | ⟨j, ad, a, _⟩
        · exact h
        · exfalso
          unfold look at a
          cases hfd : es.find? (fun e => e.1 == n) with
          | none => rw [hfd] at a; cases a
          | some e => exact hno e (List.mem_of_find?_eq_some hfd) (by simpa using List.find?_some hfd)
      have hf := run_findKey (P := P) hku hf w
      have hrun : (execOp ρ o).run P w = .ok .skip { w with heap := w.heap.setIfInBounds b (.map ((es ++ [(n, a, c)]).map mE).toArray (c + 1)) } := by
        simp [execOp, ho, Instr.mapUpdate, run_underlying hu, em, hget, hck, ek, ex, hf, hset, mE]
      have hlt : b < w.heap.size := (Array.getElem?_eq_some_iff.1 k1).1
      obtain ⟨g', q1, q2, q3⟩ := heap_put hw (b := b) (o' := .imap (es ++ [(n, a, c)]) (c + 1)) (w' := { w with heap := w.heap.setIfInBounds b (.map ((es ++ [(n, a, c)]).map mE).toArray (c + 1)) }) (by rw [hH]; simp)
        ⟨by
          show (w.heap.setIfInBounds b _)[b]? = _
          rw [Array.getElem?_setIfInBounds_self_of_lt hlt], by
          rw [List.map_append, List.nodup_append]
          refine ⟨k2, by simp, fun x hx y hy => ?_⟩
          obtain ⟨e, he, rfl⟩ := List.mem_map.1 hx
          have := k3 e he
          simp at hy
          omega, fun e he => by
          rcases List.mem_append.1 he with h | h
          · have := k3 e h; omega
          · obtain rfl := List.mem_singleton.1 h; simp⟩
        (by simp) (fun a' ha => Array.getElem?_setIfInBounds_ne (Ne.symm ha)) ⟨rfl, rfl, rfl⟩
      unfold OpSem NextSem
      rw [hrun]
      exact ⟨g', _, .undef, True.intro, q1, q2, q3 L (notIn_spec hn), h⟩
  rename_i ki id kx hki
  split at h <;> try exact h.elim
  rename_i kc hkc
  obtain ⟨hu, hz⟩ := und_map' (hty.ok _ _ hi) rfl
  obtain ⟨kd, hku, hkk⟩ := keyK_und (hty.ok _ _ hki) hkc
  have hck := fun b => run_checkKey (P := P) hku hkk b (ρ k) w
  cases hn : notIn L id with
  | false => simp only [hn, cond_false] at h; exact h.elim
  | true =>
    simp only [hn, cond_true] at h
    have main : ∀ {ag : Bool} {es : List (D × List D)} {ds : List D}, σ[id]? = some (.map ag es) → ElR g.I ag ds (ρ x) → (kc.ok kx ∧ ∀ e ∈ es, kc.ok e.1) → (K .undef (σ.set id (.map ag (setM kc kx ds es)))).wp P Q →
        OpSem P o ρ w fun v w' => ∃ g' σ' av, VR σ' g' av v ∧ WR g' σ' w' ∧ Step g σ w g' σ' w' ∧ Keep g σ σ' w w' L ∧ (K av σ').wp P Q := fun {ag es ds} hs hel hoks h => by
      obtain ⟨o1, o2⟩ := hoks
      obtain ⟨b, hb, em⟩ := hm
      obtain ⟨⟨arr, clock, hheap, hmap⟩, hnotI⟩ := hw.blk _ _ _ hs hb
      have hget := run_getObj_map' (P := P) hheap
      have hset := fun o => run_setObj_map' (P := P) o hheap
      rcases findNow_ok hkk hk o1 ds 0 hmap o2 with ⟨a, bb, c⟩ | ⟨j, me, cs, a, bb, c, d, e, f⟩
      · have hf := run_findKey (P := P) hku bb w
        rw [c] at h
        obtain ⟨g', k1, k2, k3⟩ := map_turn (arr' := arr.push { key := ρ k, val := ρ x, born := clock }) (clock' := clock + 1) hw hs hb hheap hnotI (es' := es ++ [(kx, ds)]) (by
          rw [Array.toList_push]
          exact MapR.push (m := { key := ρ k, val := ρ x, born := clock }) ⟨show DR g.I kx (ρ k) from hk, hel⟩ hmap)
        have hrun : (execOp ρ o).run P w = .ok .skip { w with heap := w.heap.setIfInBounds b (.map (arr.push { key := ρ k, val := ρ x, born := clock }) (clock + 1)) } := by
          simp [execOp, ho, Instr.mapUpdate, run_underlying hu, em, hget, hck, hf, hset]
        unfold OpSem NextSem
        rw [hrun]
        exact ⟨g', _, .undef, True.intro, k1, k2, k3 L (notIn_spec hn), h⟩
      · have hf := run_findKey (P := P) hku bb w
        rw [f] at h
        rw [Nat.zero_add] at hf
        have hj : arr[j]? = some me := by simpa using c
        have hjlt : j < arr.size := (Array.getElem?_eq_some_iff.1 hj).1
        have hbits : Instr.sameBits 10000 (ρ k) (ρ k) = true := (sameNow_ok hkk hk hk o1 o1).2.2
        have hkeep : (Instr.keyThatStays (((arr[j]?).map (·.key)).getD (ρ k)) (ρ k)).run P w = .ok (ρ k) w := by
          simp [Instr.keyThatStays, hj, e, hbits]
        obtain ⟨g', k1, k2, k3⟩ := map_turn (arr' := arr.modify j fun e => { e with key := ρ k, val := ρ x }) (clock' := clock) hw hs hb hheap hnotI (es' := es.set j (kx, ds)) (by
          have : (arr.modify j fun e => { e with key := ρ k, val := ρ x }).toList = arr.toList.set j { me with key := ρ k, val := ρ x } := by
            apply List.ext_getElem?
            intro i
            by_cases hij : j = i
            · subst hij
              simp [Array.getElem?_modify, hj, hjlt]
              rw [Array.getElem?_eq_getElem hjlt] at hj
              rw [Option.some.inj hj]
            · simp [Array.getElem?_modify, hij]
          rw [this]
          exact MapR.set (m := { me with key := ρ k, val := ρ x }) ⟨show DR g.I kx (ρ k) from hk, hel⟩ j hmap)
        have hrun : (execOp ρ o).run P w = .ok .skip { w with heap := w.heap.setIfInBounds b (.map (arr.modify j fun e => { e with key := ρ k, val := ρ x }) clock) } := by
          simp [execOp, ho, Instr.mapUpdate, run_underlying hu, em, hget, hck, hf, hset, hkeep]
        unfold OpSem NextSem
        rw [hrun]
        exact ⟨g', _, .undef, True.intro, k1, k2, k3 L (notIn_spec hn), h⟩
    split at h <;> try exact h.elim
    · rename_i es ds hs
      simp only [forceL_eq] at h
      obtain ⟨vs, e, hd⟩ := hx
      exact main hs (ag := true) ⟨vs, e, hd⟩ h.1 h.2
    · rename_i es y hs
      cases ho1 : y.one with
      | false => simp only [ho1, cond_false] at h; exact h.elim
      | true =>
        simp only [ho1, cond_true, forceL_eq] at h
        exact main hs (ag := false) ⟨y, rfl, hx, ho1⟩ h.1 h.2
end Go.Am
