import Derived.Test.YtddhlmejaobcgaaAm19
import Derived.Test.YtddhlmejaobcgaaAm23
import Derived.LaidLaws
import Derived.LaidHandle
set_option linter.unusedVariables false
set_option linter.unusedSimpArgs false
/- Worlds that only grew; a law's row where package-level variables hold what the program's text lays. -/
namespace Go.Am
open Go Go.ChangeShapes Go.WideShapes Go.RowKit
variable {P : Program}
/-- A world that only grew. -/
structure Grew (w w' : World) : Prop where
  size : w.heap.size ≤ w'.heap.size
  same : ∀ b, b < w.heap.size → w'.heap[b]? = w.heap[b]?
  os : w'.os = w.os
  tape : w'.tape = w.tape
  output : w'.output = w.output
theorem Grew.refl (w : World) : Grew w w := ⟨Nat.le_refl _, fun _ _ => rfl, rfl, rfl, rfl⟩
theorem Grew.trans {w w' w'' : World} (h : Grew w w') (k : Grew w' w'') : Grew w w'' :=
  ⟨Nat.le_trans h.size k.size, fun b hb => (k.same b (Nat.lt_of_lt_of_le hb h.size)).trans (h.same b hb), k.os.trans h.os, k.tape.trans h.tape, k.output.trans h.output⟩
theorem Grew.alloc (w : World) (o : Obj) : Grew w (w.alloc o) := ⟨by simp, fun b hb => heap_alloc_old w o hb, rfl, rfl, rfl⟩
theorem Grew.set {w w' : World} (h : Grew w w') {a : Addr} (ha : w.heap.size ≤ a.block) (v : Value) : Grew w (w'.setCell a v) :=
  ⟨by simpa [World.setCell] using h.size, fun b hb => by
    rw [← h.same b hb]
    simp only [World.setCell, Array.getElem?_modify]
    rw [if_neg (by omega)], h.os, h.tape, h.output⟩
theorem Grew.cell {w w' : World} (h : Grew w w') {a : Addr} {v : Value} (ha : w.cell? a = some v) : w'.cell? a = some v := by
  have hb := World.block_lt_of_cell? w a ha
  rw [World.cell?_of_block (w := w) (h.same _ hb)]
  exact ha
theorem WR.grew {g : Gh} {σ : Store} {w w' : World} (hw : WR g σ w) (h : Grew w w') : WR g σ w' ∧ Step g σ w g σ w' := by
  refine ⟨⟨hw.len, fun i x c h1 h2 => ?_, fun a v k => h.cell (hw.fact a v k), hw.dist, fun i c b h1 h2 => Nat.lt_of_lt_of_le (hw.inb i c b h1 h2) h.size, hw.glob⟩,
    ⟨fun _ _ k => k, h.size, fun b hb _ => h.same b hb, h.os, h.tape, h.output, fun i _ => Cpt.refl σ g i, Nat.le_refl _, fun i c b h1 h2 => .inl ⟨i, c, h1, h2⟩, fun _ _ k => .inl k⟩⟩
  exact (hw.blk i x c h1 h2).keep (g := g) (fun _ _ k => k) (fun i _ => Cpt.refl σ g i) (fun b hb => h.same b (hw.inb i c b h2 hb)) fun _ _ k => .inl k
/-- A call shown by its contract, that leaves memory as it was but for new blocks. -/
theorem Pure.of_calls {f : FuncId} {fn : Func} {c : Go.Code} (hf : P.funcs[f]? = some fn) (hb : fn.body = some c) (hn : (fn.name == "runtime.NumGoroutine") = false) {args : List AV} {v : Value}
    (h : ∀ (g : Gh) (w : World) (vs : List Value), WR g [] w → VRL [] g args vs → Calls P f vs.toArray w fun e w' => e = .returned v ∧ Grew w w') : Go.Am.Pure P f args (.d (.lit v)) := by
  intro g w vs hw hv
  have hn' : ¬ fn.name = "runtime.NumGoroutine" := by simpa using hn
  have hrun : (callFunc f vs.toArray).run P w = .ok (.enter f vs.toArray) w := by
    simp [callFunc, program, Sem.run, hf, hb, hn']
  unfold NextSem
  rw [hrun]
  refine Calls.mono (h g w vs hw hv) fun e w' ⟨h1, h2⟩ => ?_
  obtain ⟨k1, k2⟩ := hw.grew h2
  exact ⟨_, h1, g, [], _, vr_lit _, k1, k2, rfl, rfl⟩
/-- A call shown by its contract, that leaves memory as it was but for new blocks: any value that speaks of no block of its own. -/
theorem Pure.of_calls' {f : FuncId} {fn : Func} {c : Go.Code} (hf : P.funcs[f]? = some fn) (hb : fn.body = some c) (hn : (fn.name == "runtime.NumGoroutine") = false) {args : List AV} {x : AV}
    (h : ∀ (g : Gh) (w : World) (vs : List Value), WR g [] w → VRL [] g args vs → Calls P f vs.toArray w fun e w' => (∃ v, e = .returned v ∧ VR [] g x v) ∧ Grew w w') : Go.Am.Pure P f args x := by
  intro g w vs hw hv
  have hn' : ¬ fn.name = "runtime.NumGoroutine" := by simpa using hn
  have hrun : (callFunc f vs.toArray).run P w = .ok (.enter f vs.toArray) w := by
    simp [callFunc, program, Sem.run, hf, hb, hn']
  unfold NextSem
  rw [hrun]
  refine Calls.mono (h g w vs hw hv) fun e w' ⟨⟨v, h1, hx⟩, h2⟩ => ?_
  obtain ⟨k1, k2⟩ := hw.grew h2
  exact ⟨_, h1, g, [], _, hx, k1, k2, rfl, rfl⟩
/-- A law's row under a condition X on the memory that it starts from. -/
theorem law_rowL {C : Checked} (own : ownKnob C.prog.godebug = none) {os : Os} (started : os.Started) {H : Type} {enc : TypeId × Value → H} {f : FuncId} {fn : Func} {s : ChangeSpec} {c : Code} {n : Nat} {b : TypeId} {X : World → Array Value → Prop}
    (hX : ∀ (w w' : World) (args : Array Value), w.heap = w'.heap → X w args → X w' args)
    (noInit : C.prog.inits.idxOf? f = none) (hf : C.prog.funcs[f]? = some fn) (hb : fn.body = some c) (hn : (fn.name == "runtime.NumGoroutine") = false) (hl : laidOutB C.prog = true)
    (hp : fn.params.toList.all (fun t => C.prog.readableRec t && decide (t < C.prog.types.size)) = true) (ho : fn.params.toList.all (okT C.prog n) = true) (hr : fn.resultTypes = #[b]) (hbool : C.prog.underlying b = some .bool) (hv : s.vars = [])
    (hs : ∀ ds : List (DataW H), ds.length = fn.params.toList.length → (s.fn H ds).results = [.lit (.bool true)] ∧ (s.fn H ds).args = ds ∧ (s.fn H ds).vars = [])
    (witness : ∃ (w : World) (tape : Tape) (i : Input), w.os = os ∧ (w.forCall tape i).Shaped C.prog ∧ i.vars = [] ∧ Input.okWide C.prog (w.forCall tape i) .any w.heap.size f i ∧
      ((s.pre enc C.prog fn [] false (w.forCall tape i).memory i.args ∧ X (w.forCall tape i).memory i.args) ∧ sizedMet enc C.prog fn (OpenSpec.ofChange s) false (w.forCall tape i).memory i.args) ∧ ({} : Assume).holds C.prog (lone (Frame.enter C.prog f i.args .normal) [] (w.forCall tape i)))
    (walk : ∀ css : List (List D), All2 (fun t cs => TC C.prog n t cs) fn.params.toList css → CallOk C.prog f ((fn.params.toList.zip css).map fun p => .d (argD C.prog p.1 p.2)) [] fun v _ => v = .d (.lit (.bool true)))
    (hJ : ∀ (W : World) (args : Array Value), X W args → ∀ a v, glJ a v → W.cell? a = some v)
    (hS : ∀ (W : World) (args : Array Value), X W args → ∀ a, glS a → ∃ v, W.cell? a = some v ∧ (v = .nilIface ∨ ∃ t x, v = .iface t x) := by intro W args h a k; exact k.elim) :
    ReturnsInHanded {} C os f .any (fun w args => (s.pre enc C.prog fn [] false w args ∧ X w args) ∧ sizedMet enc C.prog fn (OpenSpec.ofChange s) false w args) (s.post enc C.prog fn false true false false) := by
  refine returnsInHanded_of_change_and hX own started noInit hf witness ?_
  intro W base args ds gs before hval hW _ _ hXW _
  have hW' := hW
  have hlt := hW.lt
  obtain ⟨p, q, hA, hV, rfl, hfz, hnd⟩ := hW
  rw [hv] at hV
  have hgs : gs = [] ∧ q = [] := by
    cases gs with
    | nil => exact ⟨rfl, hV⟩
    | cons g gs => exact hV.elim
  obtain ⟨rfl, rfl⟩ := hgs
  have hlen : ds.length = fn.params.toList.length := trodAll_len hA
  obtain ⟨css, k1, k2⟩ := args_ok (n := n) (b := base) (r := .any) ho (fun j t v h1 h2 => hval j t v (by simpa using h1) (by simpa using h2)) hA
  obtain ⟨s1, s2, s3⟩ := hs ds hlen
  have key := CallOk.calls hf hb hn (walk css k1) (w := W) (vs := args.toList) k2 ⟨hJ W args hXW, hS W args hXW⟩
  have e1 : args.toList.toArray = args := by simp
  rw [e1] at key
  refine key.mono fun e W' ⟨v, av, g', σ', he, hvv, hav, bel⟩ => ?_
  subst hav
  have hvv := hvv.lit
  subst he hvv
  have hre := reread hl bel hp hA (fun x hx => hlt x (by simp [hx]))
  refine ⟨_, rfl, ds, [], _, [], p, [], hW', ?_, ?_, ?_, bel.frame _, fun h => by cases h⟩
  · simp only [List.append_nil, s1, hr]
    exact trodAll_mk1 (shut_bool hbool true)
  · simp only [List.append_nil, s2]
    exact hre
  · simp only [List.append_nil, s3, hv]
    rfl
end Go.Am
