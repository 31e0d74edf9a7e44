import Derived.Test.YtddhlmejaobcgaaDoorV1
set_option maxRecDepth 100000
set_option linter.unusedVariables false
set_option linter.unusedSimpArgs false
namespace Go.Proofs.YtddhlmejaobcgaaDoor.Va
open Go Go.Am
/-- An attribute, a predicate, a value. -/
structure Att where
  nm : ByteArray
  k : Int
  mn : Int
  mx : Int
structure Prd where
  nm : ByteArray
  o : Int
  lo : Int
  hi : Int
  str : ByteArray
structure Val where
  num : Int
  str : ByteArray
def atC (a : Att) : List D := [sD a.nm, nI a.k, nI a.mn, nI a.mx]
def prC (p : Prd) : List D := [sD p.nm, nI p.o, nI p.lo, nI p.hi, sD p.str]
def vaC (v : Val) : List D := [nI v.num, sD v.str]
theorem atC_len (a : Att) : (atC a).length = 4 := rfl
theorem prC_len (a : Prd) : (prC a).length = 5 := rfl
theorem vaC_len (a : Val) : (vaC a).length = 2 := rfl
def kA : List CK := [.str, .int .i64, .int .i64, .int .i64]
def kP : List CK := [.str, .int .i64, .int .i64, .int .i64, .str]
def kV : List CK := [.int .i64, .str]
theorem atE {l : List Att} {i : Nat} {a : Att} (h : l[i]? = some a) : Elem (flat atC l) kA (i * 4) 4 (atC a) := Elem.all atC_len h kA rfl ⟨rfl, rfl, rfl, rfl, True.intro⟩ rfl
theorem prE {l : List Prd} {i : Nat} {a : Prd} (h : l[i]? = some a) : Elem (flat prC l) kP (i * 5) 5 (prC a) := Elem.all prC_len h kP rfl ⟨rfl, rfl, rfl, rfl, rfl, True.intro⟩ rfl
theorem vaE {l : List Val} {i : Nat} {a : Val} (h : l[i]? = some a) : Elem (flat vaC l) kV (i * 2) 2 (vaC a) := Elem.all vaC_len h kV rfl ⟨rfl, rfl, True.intro⟩ rfl
/-- Where the first of a list with a property lies. -/
def ixF {α : Type} (p : α → Bool) : List α → Nat → Int
  | [], _ => -1
  | x :: r, i => if p x then (i : Int) else ixF p r (i + 1)
theorem ixF_ge {α : Type} (p : α → Bool) : ∀ (l : List α) (i : Nat), -1 ≤ ixF p l i ∧ (ixF p l i = -1 ∨ (i : Int) ≤ ixF p l i)
  | [], i => by simp [ixF]
  | x :: r, i => by
    unfold ixF
    split
    · omega
    · have := ixF_ge p r (i + 1); omega
theorem ixF_any {α : Type} (p : α → Bool) : ∀ (l : List α) (i : Nat), decide (ixF p l i ≥ 0) = l.any p
  | [], i => by simp [ixF]
  | x :: r, i => by
    unfold ixF
    cases h : p x with
    | true => simp [h]
    | false => simp [h]; rw [← ixF_any p r (i + 1)]
theorem ixF_spec {α : Type} (p : α → Bool) : ∀ (l : List α) (i : Nat), ixF p l i = -1 ∨ ∃ k x, ixF p l i = ((i + k : Nat) : Int) ∧ l[k]? = some x ∧ p x = true
  | [], i => .inl rfl
  | x :: r, i => by
    unfold ixF
    split
    · rename_i h
      exact .inr ⟨0, x, rfl, rfl, h⟩
    · rcases ixF_spec p r (i + 1) with h | ⟨k, y, h1, h2, h3⟩
      · exact .inl h
      · exact .inr ⟨k + 1, y, by rw [h1]; congr 1; omega, by simpa using h2, h3⟩
theorem drop_cons {α : Type} {l : List α} {i : Nat} {x : α} (h : l[i]? = some x) : l.drop i = x :: l.drop (i + 1) := by
  obtain ⟨h1, h2⟩ := List.getElem?_eq_some_iff.1 h
  rw [List.drop_eq_getElem_cons h1, h2]
def od27 : Ords := []
theorem code27 : codeB Tryd.f27.ntmps od27 (match Tryd.f27.body with | some c => c | none => .skip) = true := by kernel_rfl
def od35 : Ords := []
theorem code35 : codeB Tryd.f35.ntmps od35 (match Tryd.f35.body with | some c => c | none => .skip) = true := by kernel_rfl
def od28 : Ords := []
theorem code28 : codeB Tryd.f28.ntmps od28 (match Tryd.f28.body with | some c => c | none => .skip) = true := by kernel_rfl
def od12 : Ords := []
theorem code12 : codeB Tryd.f12.ntmps od12 (match Tryd.f12.body with | some c => c | none => .skip) = true := by kernel_rfl
/-- A variable of data. -/
abbrev bD (ds : List D) : Blk := .var (ds.map .d)
theorem subL_ds {σ : Store} {ρ : Nat → Option Nat} : ∀ (r : List D), AV.subL σ ρ (r.map .d) = r.map .d
  | [] => rfl
  | a :: r => by simp only [List.map_cons, AV.subL, AV.sub]; rw [subL_ds r]
theorem merge_bD (ds : List D) : mergeS [bD ds] [0] [bD ds] = [bD ds] := by
  show [Blk.var (AV.subL _ _ (ds.map .d))] = _
  rw [subL_ds]
theorem subS_bD (ds : List D) : subS [bD ds] [0] = [bD ds] := by
  show [Blk.var (AV.subL _ _ (ds.map .d))] = _
  rw [subL_ds]
theorem ok27 (p : Att → Bool) (g : Nat) (ds : List D) (l : List Att) (hl : l.length ≤ 4611686018427387904) (hp : ∀ x ∈ l, CallOk Tryd.prog g [.d (.agg (atC x)), .ptr 0 0] [bD ds] (fun v s => v = bI (p x) ∧ s = [bD ds])) :
    CallOk Tryd.prog 27 [slF atC l, .fn g [.ptr 0 0]] [bD ds] (fun v s => v = .d (nI (ixF p l 0)) ∧ s = [bD ds]) := by
  refine CallOk.of tysOk mixed od27 Tryd.func27 rfl rfl code27 ?_
  have fin : ∀ {n : Int}, n = ixF p l 0 → RetQ [bD ds].length (fun v s => v = .d (nI (ixF p l 0)) ∧ s = [bD ds]) .ret [(0, mkRet [.d (.lit (.int .i64 n))])] [bD ds] := fun {n} h => by
    subst h
    exact RetQ.part [0] (by decide) (by simp) (by intro j hj; have : j = 0 := (by simp at hj; omega); subst this; rfl) ⟨rfl, subS_bD ds⟩
  refine W.loop (fun k fr σ => ∃ i : Nat, fr = [(0, slF atC l), (1, .fn g [.ptr 0 0]), (7, .d (nI l.length)), (8, .d (nI i))] ∧ σ = [bD ds] ∧ i ≤ l.length ∧ ixF p (l.drop i) i = ixF p l 0 ∧ k = l.length - i) l.length
    (Start.of [0, 1, 7, 8] [] (by simp)) ⟨0, rfl, rfl, by omega, rfl, rfl⟩ ?_
  rintro k fr σ ⟨i, rfl, rfl, hi, hr, rfl⟩
  refine W.ite (fun c1 => ?_) (fun c1 => ?_)
  · have hil : i < l.length := by have := of_decide_eq_true c1; omega
    obtain ⟨x, hx⟩ : ∃ x, l[i]? = some x := ⟨_, List.getElem?_eq_getElem hil⟩
    have hmem := List.mem_of_getElem? hx
    rw [drop_cons hx, ixF] at hr
    refine W.need (ix_ok atC_len (by decide) hil) ?_
    refine W.ld (atE hx) ?_
    refine W.call [0] (by decide) (by simp) (by simp) rfl (subS_bD ds) (hp x hmem) ?_
    rintro v s ⟨rfl, rfl⟩
    rw [merge_bD]
    refine W.ite (fun c2 => ?_) (fun c2 => ?_)
    · refine W.ret ?_
      rw [if_pos c2] at hr
      exact W.ret (fin hr)
    · rw [if_neg (by rw [c2]; decide)] at hr
      have g1 : IntKind.i64.wrap ((i : Int) + 1) = ((i + 1 : Nat) : Int) := by rw [wrap64 (by omega) (by omega)]; rfl
      refine W.ret ⟨_, _, _, ?_, Trim.of [0, 1, 7, 8] [0] (by decide) (by simp) (by intro j hj; have : j = 0 := (by simp at hj; omega); subst this; rfl), i + 1, ?_, subS_bD ds, by omega, hr, rfl⟩
      · omega
      · rw [← g1]; rfl
  · have hil : l.drop i = [] := by have := of_decide_eq_false c1; exact List.drop_of_length_le (by omega)
    rw [hil] at hr
    exact W.ret (W.ret (fin hr))
theorem ok35 (p : Att → Bool) (g : Nat) (ds : List D) (l : List Att) (hl : l.length ≤ 4611686018427387904) (hp : ∀ x ∈ l, CallOk Tryd.prog g [.d (.agg (atC x)), .ptr 0 0] [bD ds] (fun v s => v = bI (p x) ∧ s = [bD ds])) :
    CallOk Tryd.prog 35 [slF atC l, .fn g [.ptr 0 0]] [bD ds] (fun v s => v = bI (l.any p) ∧ s = [bD ds]) := by
  refine CallOk.of tysOk mixed od35 Tryd.func35 rfl rfl code35 ?_
  refine W.call [0] (by decide) (by simp) (by simp) rfl (subS_bD ds) (ok27 p g ds l hl hp) ?_
  rintro v s ⟨rfl, rfl⟩
  rw [merge_bD]
  refine W.ret ?_
  refine RetQ.part [0] (by decide) (by simp) (by intro j hj; have : j = 0 := (by simp at hj; omega); subst this; rfl) ⟨?_, subS_bD ds⟩
  rw [← ixF_any p l 0]
  rfl
/-- Two texts alike. -/
abbrev sEq (a b : ByteArray) : Bool := a.toList == b.toList
theorem ok28 (x : Att) (s : ByteArray) : CallOk Tryd.prog 28 [.d (.agg (atC x)), .ptr 0 0] [bD [sD s]] (fun v s' => v = bI (sEq x.nm s) ∧ s' = [bD [sD s]]) := by
  refine CallOk.of tysOk mixed od28 Tryd.func28 rfl rfl code28 ?_
  refine W.ret ?_
  exact RetQ.part [0] (by decide) (by simp) (by intro j hj; have : j = 0 := (by simp at hj; omega); subst this; rfl) ⟨rfl, rfl⟩
/-- The place of an attribute. -/
def findA (l : List Att) (s : ByteArray) : Int := ixF (fun x => sEq x.nm s) l 0
theorem ok12 (l : List Att) (hl : l.length ≤ 4611686018427387904) (s : ByteArray) : Go.Am.Pure Tryd.prog 12 [slF atC l, .d (sD s)] (.d (nI (findA l s))) := by
  refine CallOk.of tysOk mixed od12 Tryd.func12 rfl rfl code12 ?_
  refine W.call [0] (by decide) (by simp) (by simp) rfl rfl (ok27 (fun x => sEq x.nm s) 28 [sD s] l hl (fun x _ => ok28 x s)) ?_
  rintro v s' ⟨rfl, rfl⟩
  refine W.ret ?_
  exact RetQ.pure rfl rfl
def od36 : Ords := []
theorem code36 : codeB Tryd.f36.ntmps od36 (match Tryd.f36.body with | some c => c | none => .skip) = true := by kernel_rfl
theorem ok36 (x a : Att) : CallOk Tryd.prog 36 [.d (.agg (atC x)), .ptr 0 0] [bD (atC a)] (fun v s' => v = bI (sEq x.nm a.nm) ∧ s' = [bD (atC a)]) := by
  refine CallOk.of tysOk mixed od36 Tryd.func36 rfl rfl code36 ?_
  refine W.ret ?_
  exact RetQ.part [0] (by decide) (by simp) (by intro j hj; have : j = 0 := (by simp at hj; omega); subst this; rfl) ⟨rfl, rfl⟩
def od54 : Ords := []
theorem code54 : codeB Tryd.f54.ntmps od54 (match Tryd.f54.body with | some c => c | none => .skip) = true := by kernel_rfl
def od37 : Ords := []
theorem code37 : codeB Tryd.f37.ntmps od37 (match Tryd.f37.body with | some c => c | none => .skip) = true := by kernel_rfl
def od38 : Ords := []
theorem code38 : codeB Tryd.f38.ntmps od38 (match Tryd.f38.body with | some c => c | none => .skip) = true := by kernel_rfl
theorem ok54 (p : Prd → Bool) (g : Nat) (ds : List D) (l : List Prd) (hl : l.length ≤ 4611686018427387904) (hp : ∀ x ∈ l, CallOk Tryd.prog g [.d (.agg (prC x)), .ptr 0 0] [bD ds] (fun v s => v = bI (p x) ∧ s = [bD ds])) :
    CallOk Tryd.prog 54 [slF prC l, .fn g [.ptr 0 0]] [bD ds] (fun v s => v = .d (nI (ixF p l 0)) ∧ s = [bD ds]) := by
  refine CallOk.of tysOk mixed od54 Tryd.func54 rfl rfl code54 ?_
  have fin : ∀ {n : Int}, n = ixF p l 0 → RetQ [bD ds].length (fun v s => v = .d (nI (ixF p l 0)) ∧ s = [bD ds]) .ret [(0, mkRet [.d (.lit (.int .i64 n))])] [bD ds] := fun {n} h => by
    subst h
    exact RetQ.part [0] (by decide) (by simp) (by intro j hj; have : j = 0 := (by simp at hj; omega); subst this; rfl) ⟨rfl, subS_bD ds⟩
  refine W.loop (fun k fr σ => ∃ i : Nat, fr = [(0, slF prC l), (1, .fn g [.ptr 0 0]), (7, .d (nI l.length)), (8, .d (nI i))] ∧ σ = [bD ds] ∧ i ≤ l.length ∧ ixF p (l.drop i) i = ixF p l 0 ∧ k = l.length - i) l.length
    (Start.of [0, 1, 7, 8] [] (by simp)) ⟨0, rfl, rfl, by omega, rfl, rfl⟩ ?_
  rintro k fr σ ⟨i, rfl, rfl, hi, hr, rfl⟩
  refine W.ite (fun c1 => ?_) (fun c1 => ?_)
  · have hil : i < l.length := by have := of_decide_eq_true c1; omega
    obtain ⟨x, hx⟩ : ∃ x, l[i]? = some x := ⟨_, List.getElem?_eq_getElem hil⟩
    have hmem := List.mem_of_getElem? hx
    rw [drop_cons hx, ixF] at hr
    refine W.need (ix_ok prC_len (by decide) hil) ?_
    refine W.ld (prE hx) ?_
    refine W.call [0] (by decide) (by simp) (by simp) rfl (subS_bD ds) (hp x hmem) ?_
    rintro v s ⟨rfl, rfl⟩
    rw [merge_bD]
    refine W.ite (fun c2 => ?_) (fun c2 => ?_)
    · refine W.ret ?_
      rw [if_pos c2] at hr
      exact W.ret (fin hr)
    · rw [if_neg (by rw [c2]; decide)] at hr
      have g1 : IntKind.i64.wrap ((i : Int) + 1) = ((i + 1 : Nat) : Int) := by rw [wrap64 (by omega) (by omega)]; rfl
      refine W.ret ⟨_, _, _, ?_, Trim.of [0, 1, 7, 8] [0] (by decide) (by simp) (by intro j hj; have : j = 0 := (by simp at hj; omega); subst this; rfl), i + 1, ?_, subS_bD ds, by omega, hr, rfl⟩
      · omega
      · rw [← g1]; rfl
  · have hil : l.drop i = [] := by have := of_decide_eq_false c1; exact List.drop_of_length_le (by omega)
    rw [hil] at hr
    exact W.ret (W.ret (fin hr))
theorem ok37 (p : Prd → Bool) (g : Nat) (ds : List D) (l : List Prd) (hl : l.length ≤ 4611686018427387904) (hp : ∀ x ∈ l, CallOk Tryd.prog g [.d (.agg (prC x)), .ptr 0 0] [bD ds] (fun v s => v = bI (p x) ∧ s = [bD ds])) :
    CallOk Tryd.prog 37 [slF prC l, .fn g [.ptr 0 0]] [bD ds] (fun v s => v = bI (l.any p) ∧ s = [bD ds]) := by
  refine CallOk.of tysOk mixed od37 Tryd.func37 rfl rfl code37 ?_
  refine W.call [0] (by decide) (by simp) (by simp) rfl (subS_bD ds) (ok54 p g ds l hl hp) ?_
  rintro v s ⟨rfl, rfl⟩
  rw [merge_bD]
  refine W.ret ?_
  refine RetQ.part [0] (by decide) (by simp) (by intro j hj; have : j = 0 := (by simp at hj; omega); subst this; rfl) ⟨?_, subS_bD ds⟩
  rw [← ixF_any p l 0]
  rfl
theorem ok38 (x a : Prd) : CallOk Tryd.prog 38 [.d (.agg (prC x)), .ptr 0 0] [bD (prC a)] (fun v s' => v = bI (sEq x.nm a.nm) ∧ s' = [bD (prC a)]) := by
  refine CallOk.of tysOk mixed od38 Tryd.func38 rfl rfl code38 ?_
  refine W.ret ?_
  exact RetQ.part [0] (by decide) (by simp) (by intro j hj; have : j = 0 := (by simp at hj; omega); subst this; rfl) ⟨rfl, rfl⟩
end Go.Proofs.YtddhlmejaobcgaaDoor.Va
