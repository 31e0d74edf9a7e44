/- The abstract machine 'Am': the operations that neither make nor write memory, each held against the machine. -/
import Derived.Test.YtddhlmejaobcgaaAm5
import Derived.Laws.Strings
import Derived.Laws.BytesArg
set_option linter.unusedVariables false
set_option linter.unusedSimpArgs false
namespace Go.Am
open Go
variable {P : Program} {ty : Tys}

theorem DR.lit {I : Facts} {v x : Value} (h : DR I (.lit v) x) : x = v := h
theorem VR.lit {σ g} {v x : Value} (h : VR σ g (.d (.lit v)) x) : x = v := h
theorem vr_lit {σ g} (v : Value) : VR σ g (.d (.lit v)) v := by show v = v; rfl

theorem ok_extract {o : Oper} {x : Operand} {i : Nat} (ho : o.op = .extract x i) : Quiet P ty o := by
  intro ev ρ L σ K Q g w hev hw h
  unfold opR at h
  rw [ho] at h
  simp only [AV.force_eq] at h
  split at h
  · rename_i vs hx
    have hx' := hev x
    rw [hx] at hx'
    obtain ⟨us, e, hl⟩ := hx'
    split at h
    · rename_i v hv
      obtain ⟨u, hu, hr⟩ := hl.get hv
      exact quiet_ok hw (v := u) (fun w' hm => by simp [execOp, ho, e, Instr.extract, hu]) hr h
    · exact h.elim
  · exact h.elim

theorem ok_nilCheck {o : Oper} {x : Operand} (ho : o.op = .nilCheck x) : Quiet P ty o := by
  intro ev ρ L σ K Q g w hev hw h
  unfold opR at h
  rw [ho] at h
  dsimp only at h
  have hx' := hev x
  split at h
  · rename_i i off hx
    rw [hx] at hx'
    obtain ⟨b, hb, e⟩ := id' hx'
    exact quiet_ok hw (v := ρ x) (fun w' hm => by simp [execOp, ho, e]) hx' h
  · rename_i a hx
    rw [hx] at hx'
    have e := hx'.lit
    exact quiet_ok hw (v := ρ x) (fun w' hm => by simp [execOp, ho, e]) hx' h
  · rename_i t y hx
    rw [hx] at hx'
    obtain ⟨u, e, _⟩ := id' hx'
    exact quiet_ok hw (v := ρ x) (fun w' hm => by simp [execOp, ho, e]) hx' h
  · rename_i i ep off hx
    rw [hx] at hx'
    obtain ⟨b, cap, sz, e', cs, a, _, _, e, _⟩ := id' hx'
    exact quiet_ok hw (v := ρ x) (fun w' hm => by simp [execOp, ho, e]) hx' h
  · rename_i cs off hx
    rw [hx] at hx'
    obtain ⟨b, base, e, _⟩ := id' hx'
    exact quiet_ok hw (v := ρ x) (fun w' hm => by simp [execOp, ho, e]) hx' h
  · rename_i f cs hx
    rw [hx] at hx'
    obtain ⟨vs, e, _⟩ := id' hx'
    exact quiet_ok hw (v := ρ x) (fun w' hm => by simp [execOp, ho, e]) hx' h
  · exact h.elim

theorem ok_unOp {o : Oper} {op : UnOp} {t : TypeId} {x : Operand} (ho : o.op = .unOp op t x) : Quiet P ty o := by
  intro ev ρ L σ K Q g w hev hw h
  unfold opR at h
  rw [ho] at h
  dsimp only at h
  have hx' := hev x
  split at h
  · rename_i b hx
    rw [hx] at hx'
    have e := hx'.lit
    exact quiet_ok hw (v := .bool (!b)) (fun w' hm => by simp [execOp, ho, e, Op.unary]) (vr_lit _) h
  · rename_i k n hx
    rw [hx] at hx'
    have e := hx'.lit
    exact quiet_ok hw (v := .int k (k.wrap (0 - n))) (fun w' hm => by simp [execOp, ho, e, Op.unary, Op.intArith]) (vr_lit _) h
  · exact h.elim

theorem ok_makeFunc {o : Oper} {fn : Fn} {first caps : Array Operand} (ho : o.op = .makeFunc fn first caps) : Quiet P ty o := by
  intro ev ρ L σ K Q g w hev hw h
  unfold opR at h
  rw [ho] at h
  cases fn with
  | func f =>
    simp only [forceC_eq] at h
    split at h
    · rename_i hf
      have hf' : first = #[] := by cases first; simp_all
      subst hf'
      refine quiet_ok hw (v := .func (.func f) #[] (caps.map ρ)) (fun w' hm => by simp [execOp, ho, Instr.makeFunc]) ?_ h
      refine ⟨caps.toList.map ρ, by rw [← Array.toList_map], VRL.of_get (by simp) fun j y u hy hu => ?_⟩
      simp only [List.getElem?_map, Option.map_eq_some_iff] at hy hu
      obtain ⟨z, hz, rfl⟩ := hy
      obtain ⟨z', hz', rfl⟩ := hu
      rw [hz] at hz'
      obtain rfl := Option.some.inj hz'
      exact hev z
    · exact h.elim
  | method name =>
    dsimp only at h
    split at h <;> try exact h.elim
    rename_i r h1 h2
    split at h <;> try exact h.elim
    rename_i t v hr
    have hf : first = #[r] := by cases first; simp_all
    have hc : caps = #[] := by cases caps; simp_all
    subst hf hc
    have e := hev r
    rw [hr] at e
    obtain ⟨u, e2, k⟩ := id' e
    have k : u = v := k
    subst k
    exact quiet_ok hw (v := .func (.method name) #[.iface t u] #[]) (fun w' hm => by simp [execOp, ho, Instr.makeFunc, e2]) (vr_lit _) h
  | _ => exact h.elim

/-! ### numbers and texts -/
theorem run_intBin {op : BinOp} {k : IntKind} {a b : Int} {K : AV → Res} {Q} (t : TypeId) (h : (intBin op k a b K).wp P Q) (hs : op ≠ .shl) (hs' : op ≠ .shr) :
    ∃ v, (∀ w, (binOp op t (.int k a) (.int k b)).run P w = .ok v w) ∧ (K (.d (.lit v))).wp P Q := by
  cases op <;> simp only [intBin] at h <;> try exact h.elim
  case quo => exact ⟨_, fun w => by simp [binOp, Op.intDiv, h.1], h.2⟩
  case rem => exact ⟨_, fun w => by simp [binOp, Op.intDiv, h.1], h.2⟩
  all_goals exact ⟨_, fun w => by simp [binOp, Op.intArith, Op.intBits, Op.intCmp], h⟩
theorem run_strBin {op : BinOp} {x y : ByteArray} {K : AV → Res} {Q} (t : TypeId) (h : (strBin op x y K).wp P Q) :
    ∃ v, (∀ w, (binOp op t (.string x) (.string y)).run P w = .ok v w) ∧ (K (.d (.lit v))).wp P Q := by
  cases op <;> simp only [strBin] at h <;> try exact h.elim
  case add => exact ⟨_, fun w => by have := h.1; simp only [binOp, Op.stringOp]; rw [if_neg (by omega)]; rfl, h.2⟩
  all_goals exact ⟨_, fun w => by simp [binOp, Op.stringOp], h⟩

theorem run_part_one {t : TypeId} {i : TyI} (h : tyB P t i = true) (ha : i.agg = false) {cs : Array Value} {off : Nat} {v : Value} (hv : cs[off]? = some v) (w : World) : (part t cs off).run P w = .ok v w := by
  simp [part, run_isAgg h, ha, hv]

theorem run_forFields {α : Type} (w : World) (e : α → Bool) (body : α → Option Bool × Unit → Sem (ForInStep (Option Bool × Unit))) :
    ∀ (gs : List α), (∀ f ∈ gs, ∀ s, (body f s).run P w = .ok (if e f then .yield (none, ()) else .done (some false, ())) w) →
    (forIn gs ((none, ()) : Option Bool × Unit) body).run P w = .ok (if gs.all e then (none, ()) else (some false, ())) w
  | [], _ => by simp
  | f :: gs, h => by
    rw [List.forIn_cons]
    have h1 := h f (by simp) (none, ())
    cases he : e f with
    | true =>
      rw [he] at h1
      simp only [if_true] at h1
      simp only [Sem.run_bind, h1, Result.andThen_ok, List.all_cons, he, Bool.true_and]
      exact run_forFields w e body gs fun f hf s => h f (by simp [hf]) s
    | false =>
      rw [he] at h1
      simp only [Bool.false_eq_true, if_false] at h1
      simp [h1, he]
/-- The cells at a field's place are equal. -/
def eqF (as bs : List D) (f : Field) : Bool := match as[f.offset]?, bs[f.offset]? with
  | some (.lit (.int _ x)), some (.lit (.int _ y)) => x == y
  | some (.lit (.bool x)), some (.lit (.bool y)) => x == y
  | some (.lit (.string x)), some (.lit (.string y)) => x == y
  | _, _ => false
theorem eqCells_all {I : Facts} {d : Nat} (hty : TysOk P ty) (w : World) {as bs : List D} {us vs : List Value} (ha : DRL I as us) (hb : DRL I bs vs) : ∀ (fs : List (Nat × TypeId)) (gs : List Field) (r : Bool),
    fieldsEq fs gs = true → eqCells ty fs as bs = some r → r = gs.all (eqF as bs) ∧
    ∀ f ∈ gs, f.name ≠ "_" ∧ ∃ x y, (part f.type us.toArray f.offset).run P w = .ok x w ∧ (part f.type vs.toArray f.offset).run P w = .ok y w ∧ (Op.equalIn (d + 1) f.type x y).run P w = .ok (eqF as bs f) w
  | [], [], r, hf, he => by
    simp only [eqCells, Option.some.injEq] at he
    subst he
    exact ⟨rfl, fun f hf => by cases hf⟩
  | (off, t) :: fs, f :: gs, r, hf, he => by
    simp only [fieldsEq, Bool.and_eq_true] at hf
    obtain rfl := Nat.eq_of_beq_eq_true hf.1.1.1
    obtain rfl := Nat.eq_of_beq_eq_true hf.1.1.2
    have hn : f.name ≠ "_" := by simpa using hf.1.2
    have key : ∀ (i : TyI) (x y : D) (b : Bool), ty.get f.type = some i → i.agg = false → as[f.offset]? = some x → bs[f.offset]? = some y → eqF as bs f = b →
        (∀ u v, DR I x u → DR I y v → (Op.equalIn (d + 1) f.type u v).run P w = .ok b w) →
        (match eqCells ty fs as bs with | some r => some (b && r) | none => none) = some r → r = (f :: gs).all (eqF as bs) ∧
    ∀ f' ∈ f :: gs, f'.name ≠ "_" ∧ ∃ x y, (part f'.type us.toArray f'.offset).run P w = .ok x w ∧ (part f'.type vs.toArray f'.offset).run P w = .ok y w ∧ (Op.equalIn (d + 1) f'.type x y).run P w = .ok (eqF as bs f') w := fun i x y b hi hag hx hy heb hq hr => by
      obtain ⟨u, hu, hxu⟩ := ha.get hx
      obtain ⟨v, hv, hyv⟩ := hb.get hy
      have h1 := run_part_one (hty.ok _ _ hi) hag (cs := us.toArray) (off := f.offset) (v := u) (by simpa using hu) w
      have h2 := run_part_one (hty.ok _ _ hi) hag (cs := vs.toArray) (off := f.offset) (v := v) (by simpa using hv) w
      have h3 := hq u v hxu hyv
      cases hr' : eqCells ty fs as bs with
      | none => rw [hr'] at hr; cases hr
      | some r' =>
        rw [hr'] at hr
        simp only [Option.some.injEq] at hr
        obtain ⟨e1, e2⟩ := eqCells_all hty w ha hb fs gs r' hf.2 hr'
        refine ⟨by rw [← hr, List.all_cons, heb, e1], fun f' hf' => ?_⟩
        rcases List.mem_cons.1 hf' with rfl | hf'
        · exact ⟨hn, u, v, h1, h2, by rw [heb]; exact h3⟩
        · exact e2 f' hf'
    unfold eqCells at he
    split at he <;> try (cases he; done)
    · rename_i k _ _ _ _ j x j' y hi hx hy
      split at he <;> try (cases he; done)
      rename_i hk
      obtain ⟨rfl, rfl⟩ := hk
      refine key _ _ _ (x == y) hi ?_ hx hy (by simp [eqF, hx, hy]) (fun u v hu hv => ?_) he
      · obtain ⟨d', hd1, hd2⟩ := ty_und (hty.ok _ _ hi)
        have := und_int (hty.ok _ _ hi) rfl rfl
        rw [this] at hd1
        obtain rfl := Option.some.inj hd1
        exact hd2
      · have := und_int (hty.ok _ _ hi) rfl rfl
        obtain rfl := DR.lit hu
        obtain rfl := DR.lit hv
        simp [Op.equalIn, run_underlying this]
    · rename_i _ _ _ _ x y hi hx hy
      refine key _ _ _ (x == y) hi ?_ hx hy (by simp [eqF, hx, hy]) (fun u v hu hv => ?_) he
      · obtain ⟨d', hd1, hd2⟩ := ty_und (hty.ok _ _ hi)
        have := und_bool (hty.ok _ _ hi) rfl rfl
        rw [this] at hd1
        obtain rfl := Option.some.inj hd1
        exact hd2
      · have := und_bool (hty.ok _ _ hi) rfl rfl
        obtain rfl := DR.lit hu
        obtain rfl := DR.lit hv
        simp [Op.equalIn, run_underlying this]
    · rename_i _ _ _ _ x y hi hx hy
      refine key _ _ _ (x == y) hi ?_ hx hy (by simp [eqF, hx, hy]) (fun u v hu hv => ?_) he
      · obtain ⟨d', hd1, hd2⟩ := ty_und (hty.ok _ _ hi)
        have := und_str (hty.ok _ _ hi) rfl
        rw [this] at hd1
        obtain rfl := Option.some.inj hd1
        exact hd2
      · have := und_str (hty.ok _ _ hi) rfl
        obtain rfl := DR.lit hu
        obtain rfl := DR.lit hv
        simp [Op.equalIn, run_underlying this]
  | [], _ :: _, r, hf, _ => by simp [fieldsEq] at hf
  | (_, _) :: _, [], r, hf, _ => by simp [fieldsEq] at hf

theorem run_equal_struct {I : Facts} (hty : TysOk P ty) (w : World) {t : TypeId} {i : TyI} (hi : ty.get t = some i) {fs : List (Nat × TypeId)} (hd : i.desc = .struct fs) {as bs : List D} {us vs : List Value}
    (ha : DRL I as us) (hb : DRL I bs vs) {r : Bool} (he : eqCells ty fs as bs = some r) : (Op.equal t (.agg us.toArray) (.agg vs.toArray)).run P w = .ok r w := by
  obtain ⟨gs, hu, hf, hs⟩ := und_struct (hty.ok _ _ hi) hd
  obtain ⟨e1, e2⟩ := eqCells_all (d := 9998) hty w ha hb fs gs.toList r hf he
  unfold Op.equal Op.maxDepth
  unfold Op.equalIn
  simp only [Sem.run_bind, run_underlying hu, Result.andThen_ok]
  simp only [program, Sem.run, Result.andThen_ok, hs, Bool.false_eq_true, if_false, Sem.run_pure]
  rw [← Array.forIn_toList, Sem.run_bind]
  rw [run_forFields w (eqF as bs) _ gs.toList (fun f hf s => by
    obtain ⟨hn, x, y, h1, h2, h3⟩ := e2 f hf
    cases hb : eqF as bs f <;> simp [hn, h1, h2, h3, hb])]
  rw [e1]
  cases gs.toList.all (eqF as bs) <;> simp

theorem arrF_all {e : TypeId} {sz : Nat} {p : Nat × TypeId → Bool} : ∀ (n k off : Nat), off = k * sz → (arrF e sz n off).all p = (List.range' k n).all fun j => p (j * sz, e)
  | 0, _, _, _ => rfl
  | n + 1, k, off, h => by
    subst h
    simp only [arrF, List.all_cons, List.range'_succ]
    rw [arrF_all n (k + 1) (k * sz + sz) (by rw [Nat.add_mul, Nat.one_mul])]
theorem arrF_mem {e : TypeId} {sz : Nat} : ∀ (n k off j : Nat), off = k * sz → k ≤ j → j < k + n → (j * sz, e) ∈ arrF e sz n off
  | 0, _, _, _, _, h1, h2 => by omega
  | n + 1, k, off, j, h, h1, h2 => by
    subst h
    simp only [arrF, List.mem_cons]
    by_cases hk : j = k
    · subst hk; exact .inl rfl
    · exact .inr (arrF_mem n (k + 1) _ j (by rw [Nat.add_mul, Nat.one_mul]) (by omega) (by omega))
/-- A field with such a place and type. -/
def fieldAt (p : Nat × TypeId) : Field := { (default : Field) with name := "x", type := p.2, offset := p.1 }
theorem fieldsEq_at : ∀ l : List (Nat × TypeId), fieldsEq l (l.map fieldAt) = true
  | [] => rfl
  | (o, t) :: r => by simp [fieldsEq, fieldAt, fieldsEq_at r, Nat.beq_refl]
theorem run_equal_array {I : Facts} (hty : TysOk P ty) (w : World) {t : TypeId} {i : TyI} (hi : ty.get t = some i) {n : Nat} {e : TypeId} {sz : Nat} (hd : i.desc = .array n e sz) {as bs : List D} {us vs : List Value}
    (ha : DRL I as us) (hb : DRL I bs vs) {r : Bool} (he : eqCells ty (arrF e sz n 0) as bs = some r) : (Op.equal t (.agg us.toArray) (.agg vs.toArray)).run P w = .ok r w := by
  obtain ⟨hu, ie, hie, rfl⟩ := und_array (hty.ok _ _ hi) hd
  obtain ⟨e1, e2⟩ := eqCells_all (d := 9998) hty w ha hb (arrF e ie.size n 0) ((arrF e ie.size n 0).map fieldAt) r (fieldsEq_at _) he
  have hsz : (sizeOf e).run P w = .ok ie.size w := by simp [sizeOf, typeInfo, hie]
  unfold Op.equal Op.maxDepth
  unfold Op.equalIn
  simp only [Sem.run_bind, run_underlying hu, Result.andThen_ok, hsz]
  simp only [Std.Legacy.Range.forIn_eq_forIn_range', Std.Legacy.Range.size, Nat.sub_zero, Nat.add_one_sub_one, Nat.div_one]
  rw [run_forFields w (fun j => eqF as bs (fieldAt (j * ie.size, e))) _ (List.range' 0 n) (fun j hj s => by
    rw [List.mem_range'_1] at hj
    obtain ⟨hn, x, y, h1, h2, h3⟩ := e2 (fieldAt (j * ie.size, e)) (List.mem_map.2 ⟨_, arrF_mem n 0 0 j (by simp) (by omega) (by omega), rfl⟩)
    simp only [fieldAt] at h1 h2 h3
    cases hb : eqF as bs (fieldAt (j * ie.size, e)) <;> simp [fieldAt, h1, h2, h3] <;> simp_all [fieldAt])]
  have : r = (List.range' 0 n).all fun j => eqF as bs (fieldAt (j * ie.size, e)) := by
    rw [e1, List.all_map]
    exact arrF_all (p := fun p => eqF as bs (fieldAt p)) n 0 0 (by simp)
  rw [this]
  cases (List.range' 0 n).all (fun j => eqF as bs (fieldAt (j * ie.size, e))) <;> simp
end Go.Am
