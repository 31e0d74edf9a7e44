/- From the rows' readings to the machine's data; the end of a law's row. -/
import Derived.Test.YtddhlmejaobcgaaAm18
import Derived.ProofKit
import Derived.OpenShut
import Derived.ShutString
import Derived.ChangeOld
import Derived.SizedLaws
import Derived.Carry
set_option linter.unusedVariables false
set_option linter.unusedSimpArgs false
namespace Go.Am
open Go Go.ChangeShapes Go.WideShapes Go.ChangeAt Go.RowKit
variable {P : Program}

def All2 {α β : Type} (R : α → β → Prop) : List α → List β → Prop
  | [], [] => True
  | a :: as, b :: bs => R a b ∧ All2 R as bs
  | _, _ => False
theorem all2_cons {α β : Type} {R : α → β → Prop} {a : α} {as : List α} {l : List β} (h : All2 R (a :: as) l) : ∃ b bs, l = b :: bs ∧ R a b ∧ All2 R as bs := by
  cases l with
  | nil => exact h.elim
  | cons b bs => exact ⟨b, bs, rfl, h⟩
theorem all2_nil {α β : Type} {R : α → β → Prop} {l : List β} (h : All2 R [] l) : l = [] := by
  cases l with
  | nil => rfl
  | cons b bs => exact h.elim
/-- These cells are of this type. -/
def TC (P : Program) : Nat → TypeId → List D → Prop
  | 0, _, _ => False
  | n + 1, t, cs => match P.underlying t with
    | some .bool => ∃ b, cs = [.lit (.bool b)]
    | some (.int k) => ∃ m, cs = [.lit (.int k m)] ∧ (Lit.int k m).wf = true
    | some .string => ∃ s : ByteArray, cs = [.lit (.string s)] ∧ s.size ≤ maxLen
    | some (.slice e) => cs = [.sl 0 []] ∨ ∃ parts : List (List D), cs = [.sl parts.length parts.flatten] ∧ parts.length ≤ maxLen ∧ ∀ p ∈ parts, TC P n e p
    | some (.struct fs) => ∃ parts : List (List D), cs = parts.flatten ∧ All2 (fun (f : Field) p => TC P n f.type p) fs.toList parts
    | some (.array m e) => ∃ parts : List (List D), cs = parts.flatten ∧ parts.length = m ∧ ∀ p ∈ parts, TC P n e p
    | _ => False
/-- Consecutive fields. -/
def consB (P : Program) : Nat → List Field → Bool
  | _, [] => true
  | o, f :: r => Nat.beq f.offset o && consB P (o + P.cellsOf f.type) r
def okT (P : Program) : Nat → TypeId → Bool
  | 0, _ => false
  | n + 1, t => match P.underlying t with
    | some .bool | some (.int _) | some .string => Nat.beq (P.cellsOf t) 1
    | some (.slice e) => okT P n e && Nat.blt 0 (P.cellsOf e) && Nat.beq (P.cellsOf t) 1
    | some (.struct fs) => consB P 0 fs.toList && Nat.beq (P.cellsOf t) ((fs.toList.map fun f => P.cellsOf f.type).sum) && fs.toList.all (fun f => okT P n f.type)
    | some (.array m e) => okT P n e && Nat.beq (P.cellsOf t) (m * P.cellsOf e)
    | _ => false
section
variable {H : Type} {enc : TypeId × Value → H} {w : World}
abbrev factsOf (w : World) : Facts := fun a v => w.cell? a = some v
theorem struct_parts {I : Facts} {n : Nat} {vs : List Value} : ∀ (fs : List Field) (o : Nat), consB P o fs = true → vs.length = o + (fs.map fun f => P.cellsOf f.type).sum →
    (∀ f ∈ fs, ∃ cs, TC P n f.type cs ∧ DRL I cs ((vs.drop f.offset).take (P.cellsOf f.type))) → ∃ parts : List (List D), All2 (fun (f : Field) p => TC P n f.type p) fs parts ∧ DRL I parts.flatten (vs.drop o)
  | [], o, _, hl, _ => ⟨[], True.intro, by rw [List.drop_eq_nil_of_le (by simpa using Nat.le_of_eq hl)]; rfl⟩
  | f :: r, o, hc, hl, h => by
    simp only [consB, Bool.and_eq_true] at hc
    obtain ⟨cs, h1, h2⟩ := h f (by simp)
    have ho := Nat.eq_of_beq_eq_true hc.1
    obtain ⟨parts, k1, k2⟩ := struct_parts r (o + P.cellsOf f.type) hc.2 (by simp at hl; omega) fun f' hf' => h f' (by simp [hf'])
    refine ⟨cs :: parts, ⟨h1, k1⟩, ?_⟩
    rw [ho] at h2
    have : vs.drop o = (vs.drop o).take (P.cellsOf f.type) ++ vs.drop (o + P.cellsOf f.type) := by
      rw [← List.drop_drop, List.take_append_drop]
    rw [this]
    exact h2.append k2
theorem array_parts {I : Facts} {n e : Nat} {vs : List Value} : ∀ (m k : Nat), vs.length = (k + m) * P.cellsOf e → (∀ i, k ≤ i → i < k + m → ∃ cs, TC P n e cs ∧ DRL I cs ((vs.drop (i * P.cellsOf e)).take (P.cellsOf e))) →
    ∃ parts : List (List D), parts.length = m ∧ (∀ p ∈ parts, TC P n e p) ∧ DRL I parts.flatten (vs.drop (k * P.cellsOf e))
  | 0, k, hl, _ => ⟨[], rfl, by simp, by rw [List.drop_eq_nil_of_le (by simpa using Nat.le_of_eq hl)]; rfl⟩
  | m + 1, k, hl, h => by
    obtain ⟨cs, h1, h2⟩ := h k (Nat.le_refl _) (by omega)
    obtain ⟨parts, k1, k2, k3⟩ := array_parts m (k + 1) (by rw [hl]; congr 1; omega) fun i h1 h2 => h i (by omega) (by omega)
    refine ⟨cs :: parts, by simp [k1], fun p hp => ?_, ?_⟩
    · rcases List.mem_cons.1 hp with rfl | hp
      · exact h1
      · exact k2 p hp
    · have : vs.drop (k * P.cellsOf e) = (vs.drop (k * P.cellsOf e)).take (P.cellsOf e) ++ vs.drop ((k + 1) * P.cellsOf e) := by
        rw [Nat.add_mul, Nat.one_mul, ← List.drop_drop, List.take_append_drop]
      rw [this]
      exact h2.append k3
theorem cells_get {base n : Nat} {a : Addr} {vs : List Value} (h : w.cells? base a n = some vs) : vs.length = n ∧ ∀ (j : Nat) v, vs[j]? = some v → w.cell? (a.add j) = some v := by
  unfold World.cells? at h
  split at h
  · refine ⟨by simpa using mapM_some_length h, fun j v hj => ?_⟩
    have hlt : j < n := by
      have h1 := (List.getElem?_eq_some_iff.1 hj).1
      have h2 := mapM_some_length h
      simp at h2
      omega
    have := mapM_some_get h j j (by simp [hlt])
    rw [this]
    exact hj
  · cases h
theorem DRM.of_drl {I : Facts} {b : Nat} : ∀ {cs : List D} {vs : List Value} {off : Nat}, DRL I cs vs → (∀ (j : Nat) v, vs[j]? = some v → I ⟨b, off + j, none⟩ v) → DRM I b off cs
  | [], _, _, _, _ => True.intro
  | c :: cs, _, off, ⟨v, r, e, k, l⟩, h => by
    subst e
    exact ⟨⟨v, by simpa using h 0 v rfl, k⟩, DRM.of_drl l fun j u hj => by
      have := h (j + 1) u (by simpa using hj)
      rw [show off + 1 + j = off + (j + 1) from by omega]
      exact this⟩
theorem add_add (a : Addr) (i j : Nat) : (a.add i).add j = a.add (i + j) := by
  unfold Addr.add
  by_cases hi : i = 0 <;> by_cases hj : j = 0 <;> simp_all [Nat.add_assoc]
theorem slice_parts {base n e len : Nat} {a : Addr} (hpos : 0 < P.cellsOf e) : ∀ (m k : Nat), k + m = len → (∀ i, k ≤ i → i < len → ∃ vs cs, w.cells? base (a.add (i * P.cellsOf e)) (P.cellsOf e) = some vs ∧ TC P n e cs ∧ DRL (factsOf w) cs vs) →
    ∃ parts : List (List D), parts.length = m ∧ (∀ p ∈ parts, TC P n e p) ∧ ∃ vs, DRL (factsOf w) parts.flatten vs ∧ ∀ (j : Nat) v, vs[j]? = some v → w.cell? (a.add (k * P.cellsOf e + j)) = some v
  | 0, k, _, _ => ⟨[], rfl, by simp, [], rfl, by simp⟩
  | m + 1, k, hk, h => by
    obtain ⟨vs, cs, h1, h2, h3⟩ := h k (Nat.le_refl _) (by omega)
    obtain ⟨parts, k1, k2, us, k3, k4⟩ := slice_parts hpos m (k + 1) (by omega) fun i h1 h2 => h i (by omega) h2
    obtain ⟨c1, c2⟩ := cells_get h1
    refine ⟨cs :: parts, by simp [k1], fun p hp => ?_, vs ++ us, h3.append k3, fun j v hj => ?_⟩
    · rcases List.mem_cons.1 hp with rfl | hp
      · exact h2
      · exact k2 p hp
    · rcases Nat.lt_or_ge j vs.length with hlt | hge
      · rw [List.getElem?_append_left hlt] at hj
        have := c2 j v hj
        rwa [add_add] at this
      · rw [List.getElem?_append_right hge] at hj
        have := k4 _ v hj
        rwa [show (k + 1) * P.cellsOf e + (j - vs.length) = k * P.cellsOf e + j from by rw [Nat.add_mul]; omega] at this
theorem trod_tc : ∀ (n : Nat) (fuel : Nat) (t : TypeId) (vs : List Value) (x : DataW H × List MemPlace), okT P n t = true → DataW.trod enc P w 0 (fun _ => true) true fuel t vs = some x → ∃ cs, TC P n t cs ∧ DRL (factsOf w) cs vs
  | 0, _, _, _, _, h, _ => by cases h
  | n + 1, fuel, t, vs, x, ho, h => by
    unfold okT at ho
    unfold TC
    split at ho
    · rename_i hu
      obtain ⟨b, rfl, rfl⟩ := DataW.trod_bool hu h
      exact ⟨_, ⟨b, rfl⟩, _, _, rfl, rfl, rfl⟩
    · rename_i k hu
      obtain ⟨m, rfl, rfl, hw⟩ := DataW.trod_int hu h
      exact ⟨_, ⟨m, rfl, hw⟩, _, _, rfl, rfl, rfl⟩
    · rename_i hu
      obtain ⟨s, rfl, rfl, hs⟩ := DataW.trod_string hu h
      exact ⟨_, ⟨s, rfl, hs⟩, _, _, rfl, rfl, rfl⟩
    · rename_i e hu
      simp only [Bool.and_eq_true] at ho
      rcases DataW.trod_slice hu h with ⟨rfl, rfl⟩ | ⟨a, len, cap, elems, rest, m, rfl, rfl, rfl, h1, h2, h3, h4, h5, _⟩
      · exact ⟨_, .inl rfl, _, _, rfl, ⟨none, 0, rfl, Nat.le_refl _, .inl rfl⟩, rfl⟩
      · have hpos : 0 < P.cellsOf e := by simpa [Nat.blt_eq] using ho.1.2
        subst h4
        obtain ⟨parts, k1, k2, us, k3, k4⟩ := slice_parts (w := w) (n := n) (e := e) (base := 0) (a := a) (len := elems.length) hpos elems.length 0 (by omega) fun i _ hi => by
          have h6 := h5 i hi
          rw [List.getElem?_eq_getElem hi] at h6
          obtain ⟨us, c1, c2⟩ := Option.bind_eq_some_iff.1 h6
          obtain ⟨cs, c3, c4⟩ := trod_tc n m e us _ ho.1.1 c2
          exact ⟨us, cs, c1, c3, c4⟩
        refine ⟨_, .inr ⟨parts, rfl, by omega, k2⟩, _, _, rfl, ⟨some a, cap, by rw [k1], by omega, ?_⟩, rfl⟩
        cases hp : parts.flatten with
        | nil => exact .inl rfl
        | cons c cs =>
          right
          rw [hp] at k3
          obtain ⟨v, r, rfl, _⟩ := id' k3
          have hv := k4 0 v rfl
          simp only [Nat.zero_mul, Nat.zero_add] at hv
          have hspot : a = ⟨a.block, a.off, none⟩ := by
            have ha0 : a.add 0 = a := by simp [Addr.add]
            rw [ha0] at hv
            unfold World.cell? at hv
            cases a with
            | mk b o s =>
              cases s with
              | none => rfl
              | some s => split at hv <;> simp at hv
          refine ⟨a.block, a.off, by rw [← hspot], DRM.of_drl k3 fun j u hj => ?_⟩
          have := k4 j u hj
          rw [hspot, add_at] at this
          simpa using this
    · rename_i fs hu
      simp only [Bool.and_eq_true] at ho
      obtain ⟨xs, m, rfl, rfl, h1, h2, h3⟩ := DataW.trod_struct hu h
      have hsum := Nat.eq_of_beq_eq_true ho.1.2
      obtain ⟨parts, k1, k2⟩ := struct_parts (P := P) (I := factsOf w) (n := n) (vs := vs) fs.toList 0 ho.1.1 (by omega) fun f hf => by
        obtain ⟨i, hi, hfi⟩ := List.getElem_of_mem hf
        have h4 := h3 i f (by
          rw [← Array.getElem?_toList, List.getElem?_eq_getElem hi, hfi])
        rw [List.getElem?_eq_getElem (by simp at hi; omega)] at h4
        exact trod_tc n m f.type _ _ (List.all_eq_true.1 ho.2 f hf) h4
      exact ⟨_, ⟨parts, rfl, k1⟩, by simpa using k2⟩
    · rename_i m e hu
      simp only [Bool.and_eq_true] at ho
      obtain ⟨xs, m', rfl, rfl, h1, h2, h3⟩ := DataW.trod_array hu h
      have hsum := Nat.eq_of_beq_eq_true ho.2
      obtain ⟨parts, k1, k2, k3⟩ := array_parts (P := P) (I := factsOf w) (n := n) (e := e) (vs := vs) m 0 (by rw [h1, hsum]; simp) fun i _ hi => by
        have h4 := h3 i (by omega)
        rw [List.getElem?_eq_getElem (by omega)] at h4
        exact trod_tc n m' e _ _ ho.1 h4
      exact ⟨_, ⟨parts, rfl, k1, k2⟩, by simpa using k3⟩
    · cases ho
end

/-- An argument's data. -/
def argD (P : Program) (t : TypeId) (cs : List D) : D := match P.underlying t with
  | some (.struct _) | some (.array _ _) => .agg cs
  | _ => match cs with | [c] => c | _ => .lit .nilIface
theorem arg_ok {H : Type} {enc : TypeId × Value → H} {w : World} {n : Nat} {t : TypeId} {v : Value} {d : DataW H} {ps : List MemPlace} {r : Reach} {b : Nat} (ho : okT P n t = true) (hv : Value.okWide P w r b t v) (h : DataW.Trod enc P w 0 (fun _ => true) true t v d ps) :
    ∃ cs, TC P n t cs ∧ DR (factsOf w) (argD P t cs) v := by
  obtain ⟨fuel, h⟩ := h
  obtain ⟨cs, h1, h2⟩ := trod_tc n fuel t _ _ ho h
  refine ⟨cs, h1, ?_⟩
  cases n with
  | zero => cases ho
  | succ n =>
    have one : ∀ c, cs = [c] → (∀ fs, P.underlying t ≠ some (.struct fs)) → (∀ m e, P.underlying t ≠ some (.array m e)) → v.cells = #[v] → DR (factsOf w) (argD P t cs) v := fun c e n1 n2 n3 => by
      subst e
      rw [n3] at h2
      obtain ⟨u, r, e, k, _⟩ := h2
      obtain ⟨rfl, rfl⟩ : v = u ∧ [] = r := by simpa using e
      unfold argD
      split
      · rename_i fs hu; exact absurd hu (n1 fs)
      · rename_i m e hu; exact absurd hu (n2 m e)
      · exact k
    unfold okT at ho
    unfold TC at h1
    split at ho
    · rename_i hu
      rw [hu] at h1
      obtain ⟨b, rfl⟩ := h1
      obtain ⟨b, rfl⟩ := okWide_bool hu hv
      exact one _ rfl (fun fs e => by rw [hu] at e; cases e) (fun m e' e => by rw [hu] at e; cases e) rfl
    · rename_i k hu
      rw [hu] at h1
      obtain ⟨b, rfl, _⟩ := h1
      obtain ⟨b, rfl⟩ := okWide_int hu hv
      exact one _ rfl (fun fs e => by rw [hu] at e; cases e) (fun m e' e => by rw [hu] at e; cases e) rfl
    · rename_i hu
      rw [hu] at h1
      obtain ⟨b, rfl, _⟩ := h1
      obtain ⟨b, rfl⟩ := okWide_string hu hv
      exact one _ rfl (fun fs e => by rw [hu] at e; cases e) (fun m e' e => by rw [hu] at e; cases e) rfl
    · rename_i e hu
      rw [hu] at h1
      obtain ⟨a, l, c, rfl⟩ := okWide_slice hu hv
      rcases h1 with rfl | ⟨parts, rfl, _⟩
      · exact one _ rfl (fun fs e => by rw [hu] at e; cases e) (fun m e' e => by rw [hu] at e; cases e) rfl
      · exact one _ rfl (fun fs e => by rw [hu] at e; cases e) (fun m e' e => by rw [hu] at e; cases e) rfl
    · rename_i fs hu
      unfold Value.okWide at hv
      rw [hu] at hv
      obtain ⟨arr, rfl, _⟩ := hv
      unfold argD
      rw [hu]
      exact ⟨arr.toList, by simp, h2⟩
    · rename_i m e hu
      unfold Value.okWide at hv
      rw [hu] at hv
      obtain ⟨arr, rfl, _⟩ := hv
      unfold argD
      rw [hu]
      exact ⟨arr.toList, by simp, h2⟩
    · cases ho
/-- All arguments' data. -/
theorem args_ok {H : Type} {enc : TypeId × Value → H} {w : World} {n b : Nat} {r : Reach} : ∀ {ts : List TypeId} {vs : List Value} {ds : List (DataW H)} {ps : List MemPlace}, ts.all (okT P n) = true →
    (∀ (j : Nat) t v, ts[j]? = some t → vs[j]? = some v → Value.okWide P w r b t v) → DataW.TrodAll enc P w 0 (fun _ => true) true ts vs ds ps →
    ∃ css : List (List D), All2 (fun t cs => TC P n t cs) ts css ∧ VRL [] ⟨[], factsOf w⟩ ((ts.zip css).map fun p => .d (argD P p.1 p.2)) vs
  | [], [], [], _, _, _, _ => ⟨[], True.intro, rfl⟩
  | t :: ts, v :: vs, d :: ds, ps, ho, hv, h => by
    simp only [List.all_cons, Bool.and_eq_true] at ho
    obtain ⟨p, q, h1, h2, _⟩ := h
    obtain ⟨cs, k1, k2⟩ := arg_ok ho.1 (hv 0 t v rfl rfl) h1
    obtain ⟨css, k3, k4⟩ := args_ok ho.2 (fun j t v h3 h4 => hv (j + 1) t v (by simpa using h3) (by simpa using h4)) h2
    exact ⟨cs :: css, ⟨k1, k3⟩, v, vs, rfl, k2, k4⟩
  | [], _ :: _, _, _, _, _, h => h.elim
  | [], [], _ :: _, _, _, _, h => h.elim
  | _ :: _, [], _, _, _, _, h => h.elim
  | _ :: _, _ :: _, [], _, _, _, h => h.elim
/-- Arguments read as they did. -/
theorem reread {H : Type} {enc : TypeId × Value → H} {W W' : World} (hl : laidOutB P = true) (hb : Below W.heap.size W W') : ∀ {ts : List TypeId} {vs : List Value} {ds : List (DataW H)} {ps : List MemPlace}, ts.all (fun t => P.readableRec t && decide (t < P.types.size)) = true →
    DataW.TrodAll enc P W 0 (fun _ => true) true ts vs ds ps → (∀ p ∈ ps, p.block < W.heap.size) → DataW.TrodAll enc P W' 0 (fun b => decide (b < W.heap.size)) true ts vs ds ps
  | [], [], [], _, _, h, _ => h
  | t :: ts, v :: vs, d :: ds, ps, ho, h, hlt => by
    simp only [List.all_cons, Bool.and_eq_true, decide_eq_true_eq] at ho
    obtain ⟨p, q, h1, h2, rfl⟩ := h
    exact ⟨p, q, Below.trod hl ho.1.1 ho.1.2 h1 hb (fun x hx => hlt x (by simp [hx])), reread hl hb (by simpa using ho.2) h2 (fun x hx => hlt x (by simp [hx])), rfl⟩
  | [], _ :: _, _, _, _, h, _ => h.elim
  | [], [], _ :: _, _, _, h, _ => h.elim
  | _ :: _, [], _, _, _, h, _ => h.elim
  | _ :: _, _ :: _, [], _, _, h, _ => h.elim
theorem trodAll_len {H : Type} {enc : TypeId × Value → H} {w : World} : ∀ {ts : List TypeId} {vs : List Value} {ds : List (DataW H)} {ps : List MemPlace}, DataW.TrodAll enc P w 0 (fun _ => true) true ts vs ds ps → ds.length = ts.length
  | [], [], [], _, _ => rfl
  | t :: ts, v :: vs, d :: ds, _, ⟨_, _, _, h, _⟩ => by simp [trodAll_len h]
  | [], _ :: _, _, _, h => h.elim
  | [], [], _ :: _, _, h => h.elim
  | _ :: _, [], _, _, h => h.elim
  | _ :: _, _ :: _, [], _, h => h.elim
/-- A law's row: the walk says that the call answers true, whatever data come in. -/
theorem law_row {C : Checked} (own : ownKnob C.prog.godebug = none) {os : Os} (started : os.Started) {H : Type} {enc : TypeId × Value → H} {f : FuncId} {fn : Func} {s : ChangeSpec} {conds : List PathCond} {c : Code} {n : Nat} {b : TypeId}
    (noInit : C.prog.inits.idxOf? f = none) (hf : C.prog.funcs[f]? = some fn) (hb : fn.body = some c) (hn : (fn.name == "runtime.NumGoroutine") = false) (hl : laidOutB C.prog = true)
    (hp : fn.params.toList.all (fun t => C.prog.readableRec t && decide (t < C.prog.types.size)) = true) (ho : fn.params.toList.all (okT C.prog n) = true) (hr : fn.resultTypes = #[b]) (hbool : C.prog.underlying b = some .bool) (hv : s.vars = [])
    (hs : ∀ ds : List (DataW H), ds.length = fn.params.toList.length → (s.fn H ds).results = [.lit (.bool true)] ∧ (s.fn H ds).args = ds ∧ (s.fn H ds).vars = [])
    (witness : ∃ (w : World) (tape : Tape) (i : Input), w.os = os ∧ (w.forCall tape i).Shaped C.prog ∧ i.vars = [] ∧ Input.okWide C.prog (w.forCall tape i) .any w.heap.size f i ∧
      s.pre6 enc C.prog fn conds false (w.forCall tape i).memory i.args ∧ ({} : Assume).holds C.prog (lone (Frame.enter C.prog f i.args .normal) [] (w.forCall tape i)))
    (walk : ∀ css : List (List D), All2 (fun t cs => TC C.prog n t cs) fn.params.toList css → CallOk C.prog f ((fn.params.toList.zip css).map fun p => .d (argD C.prog p.1 p.2)) [] fun v _ => v = .d (.lit (.bool true)))
    (hJ : ∀ a v, ¬ glJ a v := by intro a v h; exact h) (hS : ∀ a, ¬ glS a := by intro a h; exact h) :
    ReturnsInHanded {} C os f .any (s.pre6 enc C.prog fn conds false) (s.post enc C.prog fn false true false false) := by
  refine returnsInHanded_of_change_sized own started noInit hf witness ?_
  intro W base args ds gs before hval hW _ _ _
  have hW' := hW
  have hlt := hW.lt
  obtain ⟨p, q, hA, hV, rfl, hfz, hnd⟩ := hW
  rw [hv] at hV
  have hgs : gs = [] ∧ q = [] := by
    cases gs with
    | nil => exact ⟨rfl, hV⟩
    | cons g gs => exact hV.elim
  obtain ⟨rfl, rfl⟩ := hgs
  have hlen : ds.length = fn.params.toList.length := trodAll_len hA
  obtain ⟨css, k1, k2⟩ := args_ok (n := n) (b := base) (r := .any) ho (fun j t v h1 h2 => hval j t v (by simpa using h1) (by simpa using h2)) hA
  obtain ⟨s1, s2, s3⟩ := hs ds hlen
  have key := CallOk.calls hf hb hn (walk css k1) (w := W) (vs := args.toList) k2 ⟨fun a v h => absurd h (hJ a v), fun a h => absurd h (hS a)⟩
  have e1 : args.toList.toArray = args := by simp
  rw [e1] at key
  refine key.mono fun e W' ⟨v, av, g', σ', he, hvv, hav, bel⟩ => ?_
  subst hav
  have hvv := hvv.lit
  subst he hvv
  have hre := reread hl bel hp hA (fun x hx => hlt x (by simp [hx]))
  refine ⟨_, rfl, ds, [], _, [], p, [], hW', ?_, ?_, ?_, bel.frame _, fun h => by cases h⟩
  · simp only [List.append_nil, s1, hr]
    exact trodAll_mk1 (shut_bool hbool true)
  · simp only [List.append_nil, s2]
    exact hre
  · simp only [List.append_nil, s3, hv]
    rfl
end Go.Am
