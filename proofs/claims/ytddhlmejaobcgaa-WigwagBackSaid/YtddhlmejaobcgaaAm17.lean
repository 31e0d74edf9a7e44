/- The abstract machine 'Am': the moves of a walk. -/
import Derived.Test.YtddhlmejaobcgaaAm16
import Derived.Below
set_option linter.unusedVariables false
set_option linter.unusedSimpArgs false
namespace Go.Am
open Go
variable {P : Program}

/-- What a walk shows. -/
structure W (P : Program) (r : Res) (Q : AExit → Fr → Store → Prop) : Prop where
  out : r.wp P Q
theorem W.ite {b : Bool} {x y : Res} {Q} (h1 : b = true → W P x Q) (h2 : b = false → W P y Q) : W P (.ite b x y) Q := by
  cases b
  · exact ⟨(h2 rfl).out⟩
  · exact ⟨(h1 rfl).out⟩
theorem W.ite_t {b : Bool} {x y : Res} {Q} (h : b = true) (h1 : W P x Q) : W P (.ite b x y) Q := by subst h; exact ⟨h1.out⟩
theorem W.ite_f {b : Bool} {x y : Res} {Q} (h : b = false) (h1 : W P y Q) : W P (.ite b x y) Q := by subst h; exact ⟨h1.out⟩
theorem W.glob {a : Addr} {k : Value → Res} {Q} (v : Value) (h : glJ a v) (h2 : W P (k v) Q) : W P (.glob a k) Q := ⟨v, h, h2.out⟩
theorem W.need {p : Prop} {x : Res} {Q} (h1 : p) (h2 : W P x Q) : W P (.need p x) Q := ⟨h1, h2.out⟩
theorem W.alt_l {x y : Res} {Q} (h : W P x Q) : W P (.alt x y) Q := ⟨.inl h.out⟩
theorem W.alt_r {x y : Res} {Q} (h : W P y Q) : W P (.alt x y) Q := ⟨.inr h.out⟩
theorem W.both {x y : Res} {Q} (h : W P x Q) (k : W P y Q) : W P (.both x y) Q := ⟨⟨h.out, k.out⟩⟩
theorem W.ret {e fr σ} {Q : AExit → Fr → Store → Prop} (h : Q e fr σ) : W P (.ret e fr σ) Q := ⟨h⟩

theorem mergeGo_nil (σ1 : Store) (n : Nat) : ∀ (i : Nat) (σ : Store), mergeGo [] σ1 n i σ = σ
  | _, [] => rfl
  | i, b :: r => by simp [mergeGo, idx, mergeGo_nil σ1 n (i + 1) r]
theorem mergeS_nil (σ : Store) : mergeS σ [] [] = σ := by simp [mergeS, mergeGo_nil]
/-- Values that name no block. -/
def AV.plain : AV → Bool
  | .d _ => true
  | _ => false
theorem subL_plain (σ : Store) (ρ : Nat → Option Nat) : ∀ {l : List AV}, l.all AV.plain = true → AV.subL σ ρ l = l
  | [], _ => by simp [AV.subL]
  | .d x :: r, h => by
    simp only [List.all_cons, Bool.and_eq_true] at h
    simp [AV.subL, AV.sub, subL_plain σ ρ h.2]
  | .ptr _ _ :: _, h => by simp [AV.plain] at h
  | .vec _ _ :: _, h => by simp [AV.plain] at h
  | .map _ :: _, h => by simp [AV.plain] at h
  | .iter _ :: _, h => by simp [AV.plain] at h
  | .win _ _ _ :: _, h => by simp [AV.plain] at h
  | .agg _ :: _, h => by simp [AV.plain] at h
  | .tuple _ :: _, h => by simp [AV.plain] at h
  | .fn _ _ :: _, h => by simp [AV.plain] at h
  | .undef :: _, h => by simp [AV.plain] at h
/-- A call with data alone, that yields data alone. -/
theorem W.call0 {f : FuncId} {args : List AV} {σ : Store} {L : List Nat} {k : AV → Store → Res} {Q} {x : AV} (h : CallOk P f args [] fun v s => v = x ∧ s = []) (ha : args.all AV.plain = true) (hx : ∀ σ ρ, x.sub σ ρ = x) (hk : W P (k x σ) Q) :
    W P (.call f args σ L k) Q := by
  refine ⟨[], List.nodup_nil, by simp, ?_⟩
  rw [subL_plain _ _ ha]
  refine CallOk.mono h fun v s ⟨h1, h2⟩ => ⟨fun i hi => .inl (by simp), ?_⟩
  subst h1 h2
  rw [hx, mergeS_nil]
  exact hk.out
theorem W.call {f : FuncId} {args : List AV} {σ : Store} {L : List Nat} {k : AV → Store → Res} {Q} (T : List Nat) {args' : List AV} {σ' : Store} {R : AV → Store → Prop} (hn : T.Nodup) (hT : ∀ i ∈ T, i < σ.length) (hL : ∀ i ∈ L, i ∉ T)
    (ha : AV.subL σ (idx T) args = args') (hs : subS σ T = σ') (h : CallOk P f args' σ' R) (hk : ∀ v s, R v s → W P (k (v.sub s (back T σ.length)) (mergeS σ T s)) Q) : W P (.call f args σ L k) Q := by
  subst ha hs
  exact ⟨T, hn, hT, CallOk.mono h fun v s hv => ⟨fun i hi => .inl (hL i hi), (hk v s hv).out⟩⟩
theorem W.loop {body : Fr → Store → Res} {fr : Fr} {σ : Store} {k : AExit → Fr → Store → Res} {Q} (I : Nat → Fr → Store → Prop) (n : Nat) {fr' : Fr} {σ' : Store} (hf : Start fr σ fr' σ') (hI : I n fr' σ')
    (hb : ∀ n fr₁ σ₁, I n fr₁ σ₁ → W P (body fr₁ σ₁) fun e fr' σ' => match e with
      | .normal => ∃ m fr'' σ'', m < n ∧ Trim σ.length fr' σ' fr'' σ'' ∧ I m fr'' σ''
      | .exit i => W P (k (.exit i) fr' σ') Q
      | .ret => W P (k .ret fr' σ') Q) : W P (.loop body fr σ k) Q :=
  ⟨I, ⟨n, fr', σ', hf, hI⟩, fun n fr₁ σ₁ h => Res.wp_mono _ (fun e fr σ h => by
    cases e with
    | normal => exact h
    | exit i => exact h.out
    | ret => exact h.out) (hb n fr₁ σ₁ h).out⟩
/-- A body. -/
theorem CallOk.of {ty : Tys} (hty : TysOk P ty) (hm : P.follows .mixedOrders = true) (od : Ords) {f : FuncId} {fn : Func} {c : Code} (hf : P.funcs[f]? = some fn) (hb : fn.body = some c) (hn : (fn.name == "runtime.NumGoroutine") = false)
    (hc : codeB fn.ntmps od c = true) {args : List AV} {σ : Store} {R : AV → Store → Prop}
    (h : W P (codeR ty od c (frOf 0 args) σ (endR ty fn.results.toList)) (RetQ σ.length R)) : CallOk P f args σ R := func_ok hty hm hf hb hn hc h.out
theorem RetQ.all {m : Nat} {R : AV → Store → Prop} {e : AExit} {v : AV} {σ : Store} (h : R v σ) : RetQ m R e [(0, v)] σ := ⟨v, rfl, .inl h⟩
theorem RetQ.part {m : Nat} {R : AV → Store → Prop} {e : AExit} {v : AV} {σ : Store} (T : List Nat) (h1 : T.Nodup) (h2 : ∀ i ∈ T, i < σ.length) (h3 : ∀ i, i < m → T[i]? = some i) (h : R (v.sub σ (idx T)) (subS σ T)) : RetQ m R e [(0, v)] σ := ⟨v, rfl, .inr ⟨T, h1, h2, h3, h⟩⟩
/-- The slots that are kept. -/
def keepFr (f : AV → AV) (fr : Fr) : List Nat → Fr → Fr
  | [], r => r
  | t :: l, r => (t, f (fr.get t)) :: keepFr f fr l r
theorem keepFr_get (f : AV → AV) (fr : Fr) : ∀ (l : List Nat) (r : Fr) (t : Nat), (keepFr f fr l r).get t = f (fr.get t) ∨ (keepFr f fr l r).get t = r.get t
  | [], r, t => .inr rfl
  | j :: l, r, t => by
    show (bif Nat.beq j t then f (fr.get j) else (keepFr f fr l r).get t) = _ ∨ (bif Nat.beq j t then f (fr.get j) else (keepFr f fr l r).get t) = _
    cases hb : Nat.beq j t with
    | true =>
      obtain rfl := Nat.eq_of_beq_eq_true hb
      exact .inl rfl
    | false => exact keepFr_get f fr l r t
/-- Slots that go on as rows without elements. -/
def rowFr : Nat → List (Nat × Nat) → Fr
  | _, [] => []
  | n, (t, _) :: r => (t, .vec n 0) :: rowFr (n + 1) r
theorem rowFr_get (fr : Fr) (n : Nat) : ∀ (l : List (Nat × Nat)) (k : Nat), n ≤ k → (∀ p ∈ l, fr.get p.1 = .d (.lit (.slice none 0 0))) → ∀ t, (rowFr k l).get t = .undef ∨ (fr.get t = .d (.lit (.slice none 0 0)) ∧ ∃ j, n ≤ j ∧ j < k + l.length ∧ (rowFr k l).get t = .vec j 0)
  | [], k, hk, h, t => .inl rfl
  | (s, sz) :: r, k, hk, h, t => by
    show (bif Nat.beq s t then AV.vec k 0 else (rowFr (k + 1) r).get t) = _ ∨ (_ ∧ ∃ j, n ≤ j ∧ j < k + (r.length + 1) ∧ (bif Nat.beq s t then AV.vec k 0 else (rowFr (k + 1) r).get t) = _)
    cases hb : Nat.beq s t with
    | true =>
      obtain rfl := Nat.eq_of_beq_eq_true hb
      exact .inr ⟨h (s, sz) (by simp), k, hk, by omega, rfl⟩
    | false =>
      rcases rowFr_get fr n r (k + 1) (by omega) (fun p hp => h p (by simp [hp])) t with e | ⟨e, j, h1, h2, h3⟩
      · exact .inl e
      · exact .inr ⟨e, j, h1, by omega, h3⟩
theorem Start.of (l : List Nat) (rows : List (Nat × Nat)) {fr : Fr} {σ : Store} (h : ∀ p ∈ rows, fr.get p.1 = .d (.lit (.slice none 0 0))) :
    Start fr σ (keepFr (fun v => v) fr l (rowFr σ.length rows)) (σ ++ rows.map fun p => .vec p.2 0 []) := by
  refine start_rows ⟨rows.map (·.2), by rw [List.map_map]; rfl, fun t => ?_⟩
  rcases keepFr_get (fun v => v) fr l (rowFr σ.length rows) t with e | e
  · exact .inl e
  · rw [e]
    rcases rowFr_get fr σ.length rows σ.length (Nat.le_refl _) h t with e | ⟨e, j, h1, h2, h3⟩
    · exact .inr (.inl e)
    · exact .inr (.inr ⟨e, j, h1, by simpa using h2, h3⟩)
theorem Trim.of (l : List Nat) (T : List Nat) {n : Nat} {fr : Fr} {σ : Store} (h1 : T.Nodup) (h2 : ∀ i ∈ T, i < σ.length) (h3 : ∀ i, i < n → T[i]? = some i) : Trim n fr σ (keepFr (AV.sub σ (idx T)) fr l []) (subS σ T) :=
  ⟨T, h1, h2, h3, rfl, fun t => keepFr_get (AV.sub σ (idx T)) fr l [] t⟩

/-- Values that stay as they are when blocks are dropped. -/
def AV.closed : AV → Bool
  | .d _ => true
  | .tuple l => l.all AV.plain
  | _ => false
theorem closed_sub {x : AV} (h : x.closed = true) (σ : Store) (ρ : Nat → Option Nat) : x.sub σ ρ = x := by
  cases x with
  | d y => rfl
  | tuple l => unfold AV.sub; rw [subL_plain σ ρ h]
  | _ => cases h
/-- A function of data alone. -/
def Pure (P : Program) (f : FuncId) (args : List AV) (x : AV) : Prop := CallOk P f args [] fun v s => v = x ∧ s = []
theorem RetQ.pure {e : AExit} {v x : AV} {σ : Store} (hx : x.closed = true) (h : v = x) : RetQ 0 (fun v s => v = x ∧ s = []) e [(0, v)] σ := by
  subst h
  exact RetQ.part [] List.nodup_nil (by simp) (by simp) ⟨closed_sub hx _ _, rfl⟩
theorem W.pure {f : FuncId} {args : List AV} {σ : Store} {L : List Nat} {k : AV → Store → Res} {Q} {x : AV} (h : Pure P f args x) (ha : args.all AV.plain = true) (hx : x.closed = true) (hk : W P (k x σ) Q) : W P (.call f args σ L k) Q :=
  W.call0 h ha (fun σ ρ => closed_sub hx σ ρ) hk

theorem CallOk.soft {f : FuncId} {args : List AV} {σ : Store} {R : AV → Store → Prop} (h : CallOk P f args σ fun v s => R v.soft s) : CallOk P f args σ R :=
  fun g w vs hw hv => (h g w vs hw hv).mono fun v w' ⟨g', σ', av, h1, h2, h3, h4⟩ => ⟨g', σ', av.soft, h1.soft, h2, h3, h4⟩
theorem RetQ.soft {e : AExit} {v x : AV} {σ : Store} (hv : v.soft.closed = true) (h : v.soft = x) : RetQ 0 (fun v s => v.soft = x ∧ s = []) e [(0, v)] σ := by
  have : v.closed = true := by
    unfold AV.soft at hv
    split at hv
    · rfl
    · exact hv
  refine RetQ.part [] List.nodup_nil (by simp) (by simp) ⟨?_, rfl⟩
  rw [closed_sub this]
  exact h
/-- A row, at its function's end. -/
theorem RetQ.row {e : AExit} {id n sz m : Nat} {cs : List D} {x : AV} {σ : Store} (hs : σ[id]? = some (.vec sz m cs)) (h : AV.d (.sl n (cs.take (n * sz))) = x) : RetQ 0 (fun v s => v.soft = x ∧ s = []) e [(0, .vec id n)] σ := by
  refine RetQ.part [] List.nodup_nil (by simp) (by simp) ⟨?_, rfl⟩
  have : (AV.vec id n).sub σ (idx []) = .d (.sl n (cs.take (n * sz))) := by
    simp [AV.sub, idx, hs]
  rw [this, ← h]
  rfl

/-- A call from outside. -/
theorem CallOk.calls {f : FuncId} {fn : Func} {c : Code} (hf : P.funcs[f]? = some fn) (hb : fn.body = some c) (hn : (fn.name == "runtime.NumGoroutine") = false) {args : List AV} {R : AV → Store → Prop} (h : CallOk P f args [] R)
    {w : World} {vs : List Value} (hv : VRL [] ⟨[], fun a v => w.cell? a = some v⟩ args vs) (hJ : GlobOk fun a v => w.cell? a = some v) :
    Calls P f vs.toArray w fun e w' => ∃ v av g' σ', e = .returned v ∧ VR σ' g' av v ∧ R av σ' ∧ RowKit.Below w.heap.size w w' := by
  have hrun : (callFunc f vs.toArray).run P w = .ok (.enter f vs.toArray) w := by
    have hn' : ¬ fn.name = "runtime.NumGoroutine" := by simpa using hn
    simp [callFunc, program, Sem.run, hf, hb, hn']
  have key := h ⟨[], fun a v => w.cell? a = some v⟩ w vs ⟨rfl, fun i x c h => by simp at h, fun a v h => h, fun i j c c' b h => by simp at h, fun i c b h => by simp at h, hJ⟩ hv
  unfold NextSem at key
  rw [hrun] at key
  refine Calls.mono key fun e w' ⟨v, he, g', σ', av, h1, h2, h3, h4⟩ => ⟨v, av, g', σ', he, h1, h4, ⟨h3.os, h3.tape, h3.output, h3.size, fun k hk => h3.same k hk fun i c hc => by simp at hc⟩⟩
end Go.Am
