/- The abstract machine 'Am': values, stores, and what a body comes to, event by event (definitions only, over no program). -/
import GoSem.Dispatch
import Derived.Calls
set_option linter.unusedVariables false
set_option linter.unusedSimpArgs false
namespace Go.Am

/-- Data that nothing changes any more: a value without addresses, a struct or array, a slice of n elements with these cells, a pointer to place off among these cells, an interface value. -/
inductive D where
  | lit (v : Value)
  | agg (cs : List D)
  | sl (n : Nat) (cs : List D)
  | box (cs : List D) (off : Nat)
  | iface (t : TypeId) (x : D)
  deriving Inhabited

/-- A value of the abstract machine; block numbers are those of its store. -/
inductive AV where
  | d (x : D)
  | ptr (id off : Nat)
  | vec (id n : Nat)
  | map (id : Nat)
  | iter (id : Nat)
  | win (id off n : Nat)
  | row (id ep off n : Nat)
  | cell (id ep off : Nat)
  | agg (cs : List AV)
  | tuple (vs : List AV)
  | fn (f : FuncId) (caps : List AV)
  | undef
  deriving Inhabited

/-- An object of a heap: cells; a map of ints to pointers (key, block, stamp) and its clock; a round through a map (its block, its entries, the stamps handed out, the clock that it saw). -/
inductive HObj where
  | cells (l : List D)
  | imap (es : List (Int × Nat × Nat)) (clock : Nat)
  | miter (b : Nat) (es : List (Int × Nat × Nat)) (seen : List Nat) (c0 : Nat)
abbrev HMap := Nat → Option HObj
def HMap.upd (H : HMap) (a : Nat) (o : HObj) : HMap := fun x => if x = a then some o else H x
/-- What a map holds at a key. -/
def look (es : List (Int × Nat × Nat)) (n : Int) : D := match es.find? (fun e => e.1 == n) with
  | some e => .lit (.pointer (some ⟨e.2.1, 0, none⟩))
  | none => .lit (.pointer none)
/-- A block of the store: a variable's cells; a row that is appended to (cells an element, elements, cells); a row of which the cells may be written (cells an element, how often it moved, cells); a map; a string that is ranged over; one that is no block any more. -/
inductive Blk where
  | var (cs : List AV)
  | vec (sz n : Nat) (cs : List D)
  | row (sz ep : Nat) (cs : List D)
  | map (ag : Bool) (es : List (D × List D))
  | iter (s : ByteArray) (pos : Nat)
  | heap (ep : Nat) (H : HMap)
  | dead
  deriving Inhabited

abbrev Store := List Blk
abbrev Fr := List (Nat × AV)

def Fr.get : Fr → Nat → AV
  | [], _ => .undef
  | (j, v) :: r, i => bif Nat.beq j i then v else Fr.get r i

/-- An operand, by what the slots hold. -/
def evF (f : Nat → AV) : Operand → AV
  | .tmp t => f t
  | .const (.agg cs) => .d (.agg (cs.toList.map .lit))
  | .const v => .d (.lit v)
  | .global g => .d (.lit (.pointer (some ⟨g, 0, none⟩)))
  | .func f => .fn f []

/-- The ends of a piece of code. -/
inductive AExit where
  | normal
  | exit (id : Nat)
  | ret
  deriving Inhabited

/-- What a piece of code comes to. -/
inductive Res where
  | ret (e : AExit) (fr : Fr) (σ : Store)
  | fail
  | need (p : Prop) (r : Res)
  | ite (b : Bool) (x y : Res)
  | alt (x y : Res)
  | both (x y : Res)
  | glob (a : Addr) (k : Value → Res)
  | exL (p : List D → Prop) (k : List D → Res)
  | exH (p : HMap → Prop) (k : HMap → Res)
  | fa (p : Nat → Prop) (k : Nat → Res)
  | meth (t : TypeId) (v : Value) (name : String) (k : FuncId → Res)
  | call (f : FuncId) (args : List AV) (σ : Store) (L : List Nat) (k : AV → Store → Res)
  | loop (body : Fr → Store → Res) (fr : Fr) (σ : Store) (k : AExit → Fr → Store → Res)

/-! ### forcing: what is kept is kept in its own form -/
def AV.force (v : AV) (k : AV → Res) : Res :=
  match v with
  | .d (.lit x) => k (.d (.lit x))
  | .d (.agg x) => k (.d (.agg x))
  | .d (.sl n x) => k (.d (.sl n x))
  | .d (.box x o) => k (.d (.box x o))
  | .d (.iface t x) => k (.d (.iface t x))
  | .ptr i o => k (.ptr i o)
  | .vec i n => k (.vec i n)
  | .map i => k (.map i)
  | .iter i => k (.iter i)
  | .win i o n => k (.win i o n)
  | .row i e o n => k (.row i e o n)
  | .cell i e o => k (.cell i e o)
  | .agg cs => k (.agg cs)
  | .tuple vs => k (.tuple vs)
  | .fn f cs => k (.fn f cs)
  | .undef => k .undef
theorem AV.force_eq (v : AV) (k : AV → Res) : v.force k = k v := by
  cases v with
  | d x => cases x <;> rfl
  | _ => rfl
def forceL {α : Type} : List α → (List α → Res) → Res
  | [], k => k []
  | x :: r, k => forceL r fun r => k (x :: r)
theorem forceL_eq {α : Type} (l : List α) (k : List α → Res) : forceL l k = k l := by
  induction l generalizing k with
  | nil => rfl
  | cons x r ih => simp [forceL, ih]
def forceC : List AV → (List AV → Res) → Res
  | [], k => k []
  | x :: r, k => x.force fun x => forceC r fun r => k (x :: r)
theorem forceC_eq (l : List AV) (k : List AV → Res) : forceC l k = k l := by
  induction l generalizing k with
  | nil => rfl
  | cons x r ih => simp [forceC, ih, AV.force_eq]
def lenK {α : Type} : List α → Nat → (Nat → Res) → Res
  | [], n, k => k n
  | _ :: r, n, k => lenK r (n + 1) k
theorem lenK_eq {α : Type} (l : List α) (n : Nat) (k : Nat → Res) : lenK l n k = k (n + l.length) := by
  induction l generalizing n with
  | nil => rfl
  | cons x r ih => simp only [lenK, ih, List.length_cons]; congr 1; omega

/-! ### types -/
/-- The kind of one cell. -/
inductive CK where
  | int (k : IntKind) | bool | str | other
  deriving Inhabited

/-- What the machine knows of a type. -/
inductive TyD where
  | scalar
  | ptr
  | str
  | slice (elem : TypeId) (esz ebytes : Nat) (u8 : Bool)
  | array (len : Nat) (elem : TypeId) (esz : Nat)
  | struct (fields : List (Nat × TypeId))
  | iface
  | map (key elem : TypeId)
  deriving Inhabited
structure TyI where
  desc : TyD
  agg : Bool
  size : Nat
  zero : List Value
  kinds : List CK
  eqs : Bool := false
  flag : Nat := 0
  deriving Inhabited
/-- What the machine knows of the types of a program: a list, by number. -/
abbrev Tys := List (Nat × TyI)
def Tys.get : Tys → Nat → Option TyI
  | [], _ => none
  | (j, i) :: r, t => bif Nat.beq j t then some i else Tys.get r t

/-! ### data as numbers, cells read -/
def D.toI : D → Int | .lit (.int _ n) => n | _ => 0
def D.toB : D → Bool | .lit (.bool b) => b | _ => false
def D.toS : D → ByteArray | .lit (.string s) => s | _ => ByteArray.empty
def rdD (cs : List D) (i : Nat) : D := cs.getD i (.lit .nilIface)
/-- A cell's value in its kind's form, and that it is of it. -/
def CK.form : CK → D → D
  | .int k, x => .lit (.int k x.toI)
  | .bool, x => .lit (.bool x.toB)
  | .str, x => .lit (.string x.toS)
  | .other, x => x
def CK.ok : CK → D → Prop
  | .int k, x => x = .lit (.int k x.toI)
  | .bool, x => x = .lit (.bool x.toB)
  | .str, x => x = .lit (.string x.toS)
  | .other, _ => True
/-- The cells from off on, in their kinds' forms. -/
def formed (cs : List D) : List CK → Nat → List D
  | [], _ => []
  | k :: ks, off => k.form (rdD cs off) :: formed cs ks (off + 1)
def formedOk (cs : List D) : List CK → Nat → Prop
  | [], _ => True
  | k :: ks, off => k.ok (rdD cs off) ∧ formedOk cs ks (off + 1)

def allD : List AV → Option (List D)
  | [] => some []
  | .d x :: r => match allD r with | some l => some (x :: l) | none => none
  | _ :: _ => none
def mkAgg (cs : List AV) : AV := match allD cs with | some l => .d (.agg l) | none => .agg cs
/-- A value of one cell. -/
def D.one : D → Bool
  | .lit (.agg _) => false
  | .lit (.tuple _) => false
  | .agg _ => false
  | _ => true
def AV.one : AV → Bool
  | .d x => x.one
  | .agg _ => false
  | .tuple _ => false
  | .undef => false
  | _ => true
/-- A value that isn't a struct isn't told as one. -/
def AV.known : AV → Bool
  | .undef => false
  | .d (.lit (.agg _)) => false
  | .d (.lit (.tuple _)) => false
  | .tuple _ => false
  | _ => true
def AV.cells : AV → List AV
  | .d (.agg cs) => cs.map .d
  | .agg cs => cs
  | v => [v]
def splice (cs : List AV) (off : Nat) (new : List AV) : List AV := cs.take off ++ new ++ cs.drop (off + new.length)
def notIn (L : List Nat) (i : Nat) : Bool := match L with | [] => true | j :: r => bif Nat.beq j i then false else notIn r i

/-! ### operations -/
def vi (k : IntKind) (n : Int) : AV := .d (.lit (.int k n))
def vb (b : Bool) : AV := .d (.lit (.bool b))
def intBin (op : BinOp) (k : IntKind) (a b : Int) (K : AV → Res) : Res :=
  match op with
  | .add => K (.d (.lit (.int k (k.wrap (a + b)))))
  | .sub => K (.d (.lit (.int k (k.wrap (a - b)))))
  | .mul => K (.d (.lit (.int k (k.wrap (a * b)))))
  | .quo => .need (b ≠ 0) (K (.d (.lit (.int k (k.wrap (a.tdiv b))))))
  | .rem => .need (b ≠ 0) (K (.d (.lit (.int k (a.tmod b)))))
  | .and => K (.d (.lit (.int k (k.wrap (BitVec.ofInt k.bits a &&& BitVec.ofInt k.bits b).toNat))))
  | .or => K (.d (.lit (.int k (k.wrap (BitVec.ofInt k.bits a ||| BitVec.ofInt k.bits b).toNat))))
  | .xor => K (.d (.lit (.int k (k.wrap (BitVec.ofInt k.bits a ^^^ BitVec.ofInt k.bits b).toNat))))
  | .andNot => K (.d (.lit (.int k (k.wrap (BitVec.ofInt k.bits a &&& ~~~BitVec.ofInt k.bits b).toNat))))
  | .eql => K (.d (.lit (.bool (a == b))))
  | .neq => K (.d (.lit (.bool (a != b))))
  | .lss => K (.d (.lit (.bool (a < b))))
  | .leq => K (.d (.lit (.bool (a ≤ b))))
  | .gtr => K (.d (.lit (.bool (a > b))))
  | .geq => K (.d (.lit (.bool (a ≥ b))))
  | _ => .fail
def strBin (op : BinOp) (x y : ByteArray) (K : AV → Res) : Res :=
  match op with
  | .add => .need (((x.size + y.size : Nat) : Int) ≤ IntKind.i64.max) (K (.d (.lit (.string (x ++ y)))))
  | .eql => K (.d (.lit (.bool (x.toList == y.toList))))
  | .neq => K (.d (.lit (.bool (!(x.toList == y.toList)))))
  | .lss => K (.d (.lit (.bool (Op.bytesLess x.toList y.toList))))
  | .leq => K (.d (.lit (.bool (Op.bytesLess x.toList y.toList || x.toList == y.toList))))
  | .gtr => K (.d (.lit (.bool (!(Op.bytesLess x.toList y.toList || x.toList == y.toList)))))
  | .geq => K (.d (.lit (.bool (!(Op.bytesLess x.toList y.toList)))))
  | _ => .fail
/-- '==' of cells that are numbers, bools and strings, by the fields' types. -/
def eqCells (ty : Tys) : List (Nat × TypeId) → List D → List D → Option Bool
  | [], _, _ => some true
  | (off, t) :: fs, a, b =>
    match ty.get t, a[off]?, b[off]? with
    | some { desc := .scalar, kinds := [.int k], .. }, some (.lit (.int j x)), some (.lit (.int j' y)) => if k = j ∧ k = j' then match eqCells ty fs a b with | some r => some ((x == y) && r) | none => none else none
    | some { desc := .scalar, kinds := [.bool], .. }, some (.lit (.bool x)), some (.lit (.bool y)) => match eqCells ty fs a b with | some r => some ((x == y) && r) | none => none
    | some { desc := .str, .. }, some (.lit (.string x)), some (.lit (.string y)) => match eqCells ty fs a b with | some r => some ((x == y) && r) | none => none
    | _, _, _ => none
/-- The places of an array's elements. -/
def arrF (e : TypeId) (sz : Nat) : Nat → Nat → List (Nat × TypeId)
  | 0, _ => []
  | n + 1, off => (off, e) :: arrF e sz n (off + sz)
/-- '==' of other values. -/
def eqA (ty : Tys) (t : TypeId) (x y : D) : Option Bool :=
  match ty.get t with
  | none => none
  | some i =>
    match i.desc, x, y with
    | .scalar, .lit (.bool a), .lit (.bool b) => match i.kinds with | [.bool] => some (a == b) | _ => none
    | .iface, .iface _ _, .lit .nilIface => some false
    | .iface, .lit .nilIface, .iface _ _ => some false
    | .struct fs, .agg a, .agg b => bif i.eqs then eqCells ty fs a b else none
    | .array n e sz, .agg a, .agg b => bif i.eqs && (match ty.get e with | some ie => Nat.beq ie.size sz | none => false) then eqCells ty (arrF e sz n 0) a b else none
    | .map _ _, .lit (.map none), .lit (.map none) => some true
    | .slice _ _ _ _, .lit (.slice none 0 0), .lit (.slice none 0 0) => some true
    | _, _, _ => none
/-- Is one of two operands the literal nil? -/
def isNilC : Operand → Bool
  | .const .nilIface => true
  | _ => false
def binR (ty : Tys) (op : BinOp) (t : TypeId) (ox oy : Operand) (x y : AV) (K : AV → Res) : Res :=
  match x, y with
  | .d (.lit (.int k a)), .d (.lit (.int k' b)) =>
    match op with
    | .shl => .need (0 ≤ b) (K (.d (.lit (.int k (k.wrap (a * 2 ^ min b.toNat k.bits))))))
    | .shr => .need (0 ≤ b) (K (.d (.lit (.int k (a.fdiv (2 ^ min b.toNat k.bits))))))
    | op => if k = k' then intBin op k a b K else .fail
  | .d (.lit (.string a)), .d (.lit (.string b)) => strBin op a b K
  | .d (.lit .nilIface), .d (.lit .nilIface) =>
    bif isNilC ox || isNilC oy then
      match ty.get t, op with
      | some { desc := .iface, .. }, .eql => K (.d (.lit (.bool true)))
      | some { desc := .iface, .. }, .neq => K (.d (.lit (.bool false)))
      | _, _ => .fail
    else .fail
  | .map _, .d (.lit (.map none)) =>
    match ty.get t, op with
    | some { desc := .map _ _, .. }, .eql => K (.d (.lit (.bool false)))
    | some { desc := .map _ _, .. }, .neq => K (.d (.lit (.bool true)))
    | _, _ => .fail
  | .d (.lit (.pointer (some _))), .d (.lit (.pointer none)) =>
    match ty.get t, op with
    | some { desc := .ptr, .. }, .eql => K (.d (.lit (.bool false)))
    | some { desc := .ptr, .. }, .neq => K (.d (.lit (.bool true)))
    | _, _ => .fail
  | .d (.lit (.pointer none)), .d (.lit (.pointer none)) =>
    match ty.get t, op with
    | some { desc := .ptr, .. }, .eql => K (.d (.lit (.bool true)))
    | some { desc := .ptr, .. }, .neq => K (.d (.lit (.bool false)))
    | _, _ => .fail
  | .ptr _ _, .d (.lit (.pointer none)) =>
    match ty.get t, op with
    | some { desc := .ptr, .. }, .eql => K (.d (.lit (.bool false)))
    | some { desc := .ptr, .. }, .neq => K (.d (.lit (.bool true)))
    | _, _ => .fail
  | .d (.sl n cs), .d (.lit (.slice none 0 0)) =>
    match ty.get t, op with
    | some { desc := .slice _ _ _ _, .. }, .eql => .ite (Nat.beq n 0) (.both (K (.d (.lit (.bool true)))) (K (.d (.lit (.bool false))))) (.need (cs ≠ []) (K (.d (.lit (.bool false)))))
    | some { desc := .slice _ _ _ _, .. }, .neq => .ite (Nat.beq n 0) (.both (K (.d (.lit (.bool false)))) (K (.d (.lit (.bool true))))) (.need (cs ≠ []) (K (.d (.lit (.bool true)))))
    | _, _ => .fail
  | .row _ _ _ n, .d (.lit (.slice none 0 0)) =>
    match ty.get t, op with
    | some { desc := .slice _ _ _ _, .. }, .eql => .ite (Nat.beq n 0) (.both (K (.d (.lit (.bool true)))) (K (.d (.lit (.bool false))))) (K (.d (.lit (.bool false))))
    | some { desc := .slice _ _ _ _, .. }, .neq => .ite (Nat.beq n 0) (.both (K (.d (.lit (.bool false)))) (K (.d (.lit (.bool true))))) (K (.d (.lit (.bool true))))
    | _, _ => .fail
  | .d x, .d y =>
    match op with
    | .eql => match eqA ty t x y with | some b => K (.d (.lit (.bool b))) | none => .fail
    | .neq => match eqA ty t x y with | some b => K (.d (.lit (.bool (!b)))) | none => .fail
    | _ => .fail
  | _, _ => .fail
/-- What cells that were read come to. -/
def loadK (i : TyI) (l : List D) (K : AV → Res) : Res :=
  bif i.agg then forceL l fun l => K (.d (.agg l))
  else bif Nat.beq i.size 1 then match l with | v :: _ => (AV.d v).force K | [] => .fail
  else .fail
def loadR (σ : Store) (i : TyI) (a : AV) (K : AV → Res) : Res :=
  match a with
  | .ptr id off =>
    match σ[id]? with
    | some (.var cs) =>
      bif Nat.ble (off + i.size) cs.length then
        bif i.agg then (mkAgg ((cs.drop off).take i.size)).force K
        else bif Nat.beq i.size 1 then match cs[off]? with | some v => v.force K | none => .fail
        else .fail
      else .fail
    | _ => .fail
  | .d (.box cs off) =>
    bif Nat.beq i.kinds.length i.size then
      .need (off + i.size ≤ cs.length ∧ formedOk cs i.kinds off) (loadK i (formed cs i.kinds off) K)
    else .fail
  | .d (.lit (.pointer (some ⟨b, off, none⟩))) =>
    match σ with
    | .heap ep H :: _ =>
      bif Nat.beq i.kinds.length i.size then
        .exL (fun l => ∃ cs, H b = some (.cells cs) ∧ off + i.size ≤ cs.length ∧ formedOk cs i.kinds off ∧ l = formed cs i.kinds off) fun l => loadK i l K
      else .fail
    | _ =>
    bif i.agg then .fail
    else bif Nat.beq i.size 1 then .glob ⟨b, off, none⟩ fun v => K (.d (.lit v))
    else .fail
  | .cell id ep off =>
    match σ[id]? with
    | some (.row _ ep' cs) =>
      bif Nat.beq i.kinds.length i.size && Nat.beq ep' ep then
        .need (off + i.size ≤ cs.length ∧ formedOk cs i.kinds off) (loadK i (formed cs i.kinds off) K)
      else .fail
    | _ => .fail
  | _ => .fail
def storeR (σ : Store) (L : List Nat) (i : TyI) (a v : AV) (K : Store → Res) : Res :=
  match a with
  | .d (.lit (.pointer (some ⟨b, off, none⟩))) =>
    bif notIn L 0 then
      match σ with
      | .heap ep H :: r => match allD v.cells with
        | some ds =>
          bif v.known && v.cells.all AV.one && Nat.beq v.cells.length i.size then
            .exH (fun H' => ∃ cs, H b = some (.cells cs) ∧ off + i.size ≤ cs.length ∧ H' = H.upd b (.cells (cs.take off ++ ds ++ cs.drop (off + i.size)))) fun H' => K (.heap (ep + 1) H' :: r)
          else .fail
        | none => .fail
      | _ => .fail
    else .fail
  | .ptr id off =>
    bif notIn L id then
      match σ[id]? with
      | some (.var cs) =>
        bif v.known && v.cells.all AV.one && Nat.beq v.cells.length i.size && Nat.ble (off + v.cells.length) cs.length then
          forceC (splice cs off v.cells) fun cs => forceL (σ.set id (.var cs)) K
        else .fail
      | _ => .fail
    else .fail
  | .cell id ep off =>
    bif notIn L id then
      match σ[id]? with
      | some (.row sz ep' cs) => match allD v.cells with
        | some ds =>
          bif v.known && v.cells.all AV.one && Nat.beq v.cells.length i.size && Nat.beq ep' ep then
            .need (off + i.size ≤ cs.length) (forceL (σ.set id (.row sz ep' (cs.take off ++ ds ++ cs.drop (off + i.size)))) K)
          else .fail
        | none => .fail
      | _ => .fail
    else .fail
  | _ => .fail
/-- A list's spine, laid bare before it is used. -/
def spine : List AV → (List AV → Option (List AV)) → Option (List AV)
  | [], k => k []
  | x :: r, k => spine r fun r => k (x :: r)
theorem spine_eq : ∀ (l : List AV) (k : List AV → Option (List AV)), spine l k = k l
  | [], _ => rfl
  | x :: r, k => by rw [spine, spine_eq r]
/-- Parts laid into cells, each at its place. -/
def fillA (place : Nat → Option (Nat × Nat)) (cs : List AV) : List (Nat × AV) → Option (List AV)
  | [] => some cs
  | (i, v) :: rest => match place i with
    | none => none
    | some (off, size) =>
      bif v.known && Nat.beq v.cells.length size && Nat.ble (off + size) cs.length then spine (splice cs off v.cells) (fun cs => fillA place cs rest) else none
def litCells (l : List Value) : List AV := l.map fun v => .d (.lit v)
/-- Nil slices as rows of no cells. -/
def AV.soft : AV → AV
  | .d (.lit (.slice none 0 0)) => .d (.sl 0 [])
  | x => x
def sizes (ty : Tys) : List (Nat × TypeId) → Option (List (Nat × Nat))
  | [] => some []
  | (off, t) :: r => match ty.get t, sizes ty r with
    | some i, some l => some ((off, i.size) :: l)
    | _, _ => none
def zeroA (flag : Nat) (l : List Value) : List AV := bif Nat.beq flag 1 then (litCells l).map AV.soft else litCells l
def lenR (ty : Tys) (t : TypeId) (x : AV) (K : AV → Res) : Res :=
  match ty.get t with
  | none => .fail
  | some i =>
    match i.desc, x with
    | .str, .d (.lit (.string s)) => K (.d (.lit (.int .i64 s.size)))
    | .slice _ _ _ _, .d (.sl n _) => K (.d (.lit (.int .i64 n)))
    | .slice _ _ _ _, .vec _ n => K (.d (.lit (.int .i64 n)))
    | .slice _ _ _ _, .win _ _ n => K (.d (.lit (.int .i64 n)))
    | .slice _ _ _ _, .row _ _ _ n => K (.d (.lit (.int .i64 n)))
    | .slice _ _ _ _, .d (.lit (.slice _ n _)) => K (.d (.lit (.int .i64 n)))
    | .array n _ _, _ => K (.d (.lit (.int .i64 n)))
    | _, _ => .fail
/-- The bounds of a cut of n things. -/
def cutR (n : Nat) (lo hi : Option AV) (K : Nat → Nat → Res) : Res :=
  match hi, lo with
  | none, none => K 0 n
  | some (.d (.lit (.int _ h))), none => .need (0 ≤ h ∧ h ≤ n) (K 0 h.toNat)
  | none, some (.d (.lit (.int _ l))) => .need (0 ≤ l ∧ l ≤ n) (K l.toNat n)
  | some (.d (.lit (.int _ h))), some (.d (.lit (.int _ l))) => .need (0 ≤ h ∧ h ≤ n) (.need (0 ≤ l ∧ l ≤ (h.toNat : Int)) (K l.toNat h.toNat))
  | _, _ => .fail
/-- As cutR; up to m things can be had. -/
def cutX (m n : Nat) (lo hi : Option AV) (K : Nat → Nat → Res) : Res :=
  match hi, lo with
  | none, none => K 0 n
  | some (.d (.lit (.int _ h))), none => .need (0 ≤ h ∧ h ≤ m) (K 0 h.toNat)
  | none, some (.d (.lit (.int _ l))) => .need (0 ≤ l ∧ l ≤ n) (K l.toNat n)
  | some (.d (.lit (.int _ h))), some (.d (.lit (.int _ l))) => .need (0 ≤ h ∧ h ≤ m) (.need (0 ≤ l ∧ l ≤ (h.toNat : Int)) (K l.toNat h.toNat))
  | _, _ => .fail
def sliceR (ty : Tys) (σ : Store) (t : TypeId) (x : AV) (lo hi : Option AV) (K : AV → Res) : Res :=
  match ty.get t with
  | none => .fail
  | some i =>
    match i.desc, x with
    | .str, .d (.lit (.string s)) => cutR s.size lo hi fun l h => K (.d (.lit (.string (s.extract l h))))
    | .slice _ sz _ _, .d (.sl n cs) => cutR n lo hi fun l h => K (.d (.sl (h - l) ((cs.drop (l * sz)).take ((h - l) * sz))))
    | .slice _ sz _ _, .vec id n => match σ[id]? with
      | some (.vec sz' _ cs) => bif Nat.beq sz' sz then cutR n lo hi fun l h => K (.d (.sl (h - l) (((cs.take (n * sz)).drop (l * sz)).take ((h - l) * sz)))) else .fail
      | _ => .fail
    | .array n _ sz, .ptr id off => cutR n lo hi fun l h => K (.win id (off + l * sz) (h - l))
    | .slice _ sz _ _, .win id off n => cutR n lo hi fun l h => K (.win id (off + l * sz) (h - l))
    | .slice _ sz _ _, .row id ep off n => match σ[id]? with
      | some (.row sz' ep' cs) => bif Nat.beq sz' sz && Nat.beq ep' ep then .need (off + n * sz ≤ cs.length) (cutX ((cs.length - off) / sz) n lo hi fun l h => K (.row id ep (off + l * sz) (h - l))) else .fail
      | _ => .fail
    | _, _ => .fail
/-- A cut with a third bound, of which only that it is one is wanted. -/
def slice3R (ty : Tys) (t : TypeId) (x lo hi mx : AV) (K : AV → Res) : Res :=
  match ty.get t with
  | none => .fail
  | some i =>
    match i.desc, x, lo, hi, mx with
    | .slice _ _ _ _, .row _ _ _ n, .d (.lit (.int _ l)), .d (.lit (.int _ h)), .d (.lit (.int _ m)) => .need (0 ≤ l ∧ l ≤ h ∧ h ≤ m ∧ m ≤ n) (K .undef)
    | _, _, _, _, _ => .fail
def indexAddrR (ty : Tys) (σ : Store) (t : TypeId) (x ix : AV) (K : AV → Res) : Res :=
  match ty.get t, ix with
  | some i, .d (.lit (.int _ j)) =>
    match i.desc, x with
    | .slice _ sz _ _, .d (.sl n cs) => .need (0 ≤ j ∧ j < n ∧ cs ≠ []) (K (.d (.box cs (j.toNat * sz))))
    | .slice _ sz _ _, .vec id n => match σ[id]? with
      | some (.vec sz' _ cs) => bif Nat.beq sz' sz then .need (0 ≤ j ∧ j < n ∧ cs.take (n * sz) ≠ []) (K (.d (.box (cs.take (n * sz)) (j.toNat * sz)))) else .fail
      | _ => .fail
    | .slice _ sz _ _, .win id off n => .need (0 ≤ j ∧ j < n) (K (.ptr id (off + j.toNat * sz)))
    | .slice _ sz _ _, .row id ep off n => match σ[id]? with
      | some (.row sz' ep' _) => bif Nat.beq sz' sz && Nat.beq ep' ep then .need (0 ≤ j ∧ j < n) (K (.cell id ep (off + j.toNat * sz))) else .fail
      | _ => .fail
    | .array len _ sz, .ptr id off => .need (0 ≤ j ∧ j < len) (K (.ptr id (off + j.toNat * sz)))
    | .array len _ sz, .d (.box cs off) => .need (0 ≤ j ∧ j < len) (K (.d (.box cs (off + j.toNat * sz))))
    | .array len _ sz, .d (.lit (.pointer (some ⟨b, off, none⟩))) => .need (0 ≤ j ∧ j < len) (K (.d (.lit (.pointer (some ⟨b, off + j.toNat * sz, none⟩)))))
    | _, _ => .fail
  | _, _ => .fail
/-- A slice: how many elements, their cells. -/
def srcS (σ : Store) (sz : Nat) : AV → Option (Nat × List D)
  | .d (.sl n cs) => some (n, cs)
  | .vec id n => match σ[id]? with
    | some (.vec sz' _ cs) => bif Nat.beq sz' sz then some (n, cs.take (n * sz)) else none
    | _ => none
  | .d (.lit (.slice none 0 0)) => some (0, [])
  | _ => none
/-- What an append takes: how many elements, their cells. -/
def srcA (σ : Store) (sz : Nat) (x : AV) : Option (Nat × List D) :=
  match x with
  | .d (.lit (.string s)) => some (s.size, s.data.toList.map fun b => .lit (.int .u8 b.toNat))
  | .row id ep off n => match σ[id]? with
    | some (.row sz' ep' cs) => bif Nat.beq sz' sz && Nat.beq ep' ep then some (n, (cs.drop off).take (n * sz)) else none
    | _ => none
  | x => srcS σ sz x
/-- An append to a slice of what was found in the source. -/
def appendK (σ : Store) (L : List Nat) (sz bytes : Nat) (s : AV) (K : AV → Store → Res) (src : Option (Nat × List D)) : Res :=
  match src with
  | none => .fail
  | some (m, new) =>
    match s with
    | .d (.lit (.slice none 0 0)) =>
      .need (m * sz = new.length ∧ m * bytes ≤ 140737488355328 ∧ m ≤ 9223372036854775807 ∧ ∀ c ∈ new, c.one = true) (lenK σ 0 fun id => forceL (σ ++ [.vec sz m new]) fun σ => K (.vec id m) σ)
    | .vec id n =>
      bif notIn L id then
        match σ[id]? with
        | some (.vec sz' n' cs) =>
          .need (sz' = sz ∧ n' = n ∧ m * sz = new.length ∧ (n + m) * bytes ≤ 140737488355328 ∧ n + m ≤ 9223372036854775807 ∧ ∀ c ∈ new, c.one = true) (forceL (σ.set id (.vec sz (n + m) (cs ++ new))) fun σ => K (.vec id (n + m)) σ)
        | _ => .fail
      else .fail
    | .row id ep off n =>
      bif notIn L id then
        match σ[id]? with
        | some (.row sz' ep' cs) =>
          .need (sz' = sz ∧ ep' = ep ∧ off = 0 ∧ n * sz ≤ cs.length ∧ m * sz = new.length ∧ (n + m) * bytes ≤ 140737488355328 ∧ n + m ≤ 9223372036854775807 ∧ ∀ c ∈ new, c.one = true)
            (.ite (Nat.ble ((n + m) * sz) cs.length)
              (forceL (σ.set id (.row sz ep (cs.take (n * sz) ++ new ++ cs.drop ((n + m) * sz)))) fun σ => K (.row id ep 0 (n + m)) σ)
              (forceL (σ.set id (.row sz (ep + 1) (cs.take (n * sz) ++ new))) fun σ => K (.row id (ep + 1) 0 (n + m)) σ))
        | _ => .fail
      else .fail
    | _ => .fail
/-- As srcA of a row, its epoch not looked at. -/
def srcB (σ : Store) (sz : Nat) (id off n : Nat) : Option (Nat × List D) :=
  match σ[id]? with
  | some (.row sz' _ cs) => bif Nat.beq sz' sz then some (n, (cs.drop off).take (n * sz)) else none
  | _ => none
def appendR (ty : Tys) (σ : Store) (L : List Nat) (t : TypeId) (s x : AV) (K : AV → Store → Res) : Res :=
  match ty.get t with
  | some { desc := .slice _ sz bytes _, .. } =>
    match x with
    | .row id ep off n => match σ[id]? with
      | some (.row _ ep' _) => .need (ep' = ep) (appendK σ L sz bytes s K (srcB σ sz id off n))
      | _ => .fail
    | x => appendK σ L sz bytes s K (srcA σ sz x)
  | _ => .fail
def appendR0 (ty : Tys) (σ : Store) (L : List Nat) (t : TypeId) (s x : AV) (K : AV → Store → Res) : Res :=
  match ty.get t with
  | some { desc := .slice _ sz bytes _, .. } => appendK σ L sz bytes s K (srcA σ sz x)
  | _ => .fail
/-- Elements of a row become zeros. -/
def clearR (ty : Tys) (σ : Store) (L : List Nat) (t : TypeId) (x : AV) (K : AV → Store → Res) : Res :=
  match ty.get t, x with
  | some { desc := .slice e sz _ _, .. }, .row id ep off n => match ty.get e with
    | some ie =>
      bif notIn L id then
        match σ[id]? with
        | some (.row sz' ep' cs) => bif Nat.beq sz' sz && Nat.beq ep' ep && Nat.beq ie.zero.length sz then
            .need (off + n * sz ≤ cs.length) (forceL (σ.set id (.row sz ep (cs.take off ++ (List.replicate n (ie.zero.map .lit)).flatten ++ cs.drop (off + n * sz)))) fun σ => K .undef σ)
          else .fail
        | _ => .fail
      else .fail
    | none => .fail
  | _, _ => .fail
def bytesOf (cs : List D) : ByteArray := ⟨(cs.map fun x => UInt8.ofNat x.toI.toNat).toArray⟩
def isByte (x : D) : Prop := x = .lit (.int .u8 x.toI) ∧ 0 ≤ x.toI ∧ x.toI < 256
def convR (ty : Tys) (σ : Store) (src dst : TypeId) (x : AV) (K : AV → Res) : Res :=
  match ty.get src, ty.get dst with
  | some i, some j =>
    match i.desc, j.desc, j.kinds, x with
    | .scalar, .scalar, [.int k], .d (.lit (.int _ n)) => K (.d (.lit (.int k (k.wrap n))))
    | .str, .str, _, .d (.lit (.string s)) => K (.d (.lit (.string s)))
    | .slice _ sz _ true, .str, _, .win id off n => match σ[id]? with
      | some (.var cs) => bif Nat.ble (off + n) cs.length then match allD ((cs.drop off).take n) with
          | some ds => .need (sz = 1 ∧ ∀ c ∈ ds, isByte c) (K (.d (.lit (.string (bytesOf ds)))))
          | none => .fail
        else .fail
      | _ => .fail
    | .slice _ sz _ true, .str, _, x => match srcS σ 1 x with
      | some (n, cs) => .need (sz = 1 ∧ cs.length = n ∧ ∀ c ∈ cs, isByte c) (K (.d (.lit (.string (bytesOf cs)))))
      | none => .fail
    | .str, .slice _ sz _ true, _, .d (.lit (.string s)) => .need (sz = 1) (K (.d (.sl s.size (s.data.toList.map fun b => .lit (.int .u8 b.toNat)))))
    | _, _, _, _ => .fail
  | _, _ => .fail
/-- A field of a struct's cells. -/
def fieldR (i : TyI) (fo : Nat) (cs : List AV) (K : AV → Res) : Res :=
  bif Nat.ble (fo + i.size) cs.length then
    bif i.agg then (mkAgg ((cs.drop fo).take i.size)).force K
    else bif Nat.beq i.size 1 then match cs[fo]? with | some v => v.force K | none => .fail
    else .fail
  else .fail
/-- The kind of a map's keys. -/
def keyK (i : TyI) : Option CK := match i.desc, i.kinds with
  | .scalar, [.int k] => some (.int k)
  | .str, [.str] => some .str
  | _, _ => none
def sameK (kc : CK) (a b : D) : Bool := match kc with
  | .int _ => a.toI == b.toI
  | _ => a.toS == b.toS
def findM (kc : CK) (k : D) : List (D × List D) → Option (List D)
  | [] => none
  | e :: r => bif sameK kc k e.1 then some e.2 else findM kc k r
def setM (kc : CK) (k : D) (cs : List D) : List (D × List D) → List (D × List D)
  | [] => [(k, cs)]
  | e :: r => bif sameK kc k e.1 then (k, cs) :: r else e :: setM kc k cs r
/-- What a map's entry or a zero comes to. -/
def entR (i : TyI) (ok : Bool) (cs : List D) (there : Bool) (K : AV → Res) : Res :=
  bif Nat.beq i.kinds.length i.size then
    .need (cs.length = i.size ∧ formedOk cs i.kinds 0)
      (bif i.agg then forceL (formed cs i.kinds 0) fun l => bif ok then K (.tuple [.d (.agg l), .d (.lit (.bool there))]) else K (.d (.agg l))
       else match formed cs i.kinds 0 with
         | [v] => (AV.d v).force fun v => bif ok then K (.tuple [v, .d (.lit (.bool there))]) else K v
         | _ => .fail)
  else .fail
/-- A map of a heap is looked into. -/
def lookHR (ki ei : TyI) (σ : Store) (b : Nat) (ix : AV) (K : AV → Res) : Res :=
  match σ, keyK ki, ei.desc, ei.zero, ix with
  | .heap ep H :: _, some (.int .i64), .ptr, [.pointer none], .d (.lit (.int .i64 n)) =>
    .exL (fun l => ∃ es c, H b = some (.imap es c) ∧ l = [look es n]) fun l => match l with
      | [x] => (AV.d x).force K
      | _ => .fail
  | _, _, _, _, _ => .fail
/-- A map of a heap gets a new key. -/
def updHR (ki : TyI) (σ : Store) (L : List Nat) (b : Nat) (k v : AV) (K : Store → Res) : Res :=
  match σ, keyK ki, k, v with
  | .heap ep H :: r, some (.int .i64), .d (.lit (.int .i64 n)), .d (.lit (.pointer (some ⟨a, 0, none⟩))) =>
    bif notIn L 0 then
      .exH (fun H' => ∃ es c, H b = some (.imap es c) ∧ (∀ e ∈ es, e.1 ≠ n) ∧ H' = H.upd b (.imap (es ++ [(n, a, c)]) (c + 1))) fun H' => K (.heap (ep + 1) H' :: r)
    else .fail
  | _, _, _, _ => .fail
def lookupR (ty : Tys) (σ : Store) (t : TypeId) (m ix : AV) (ok : Bool) (K : AV → Res) : Res :=
  match ty.get t with
  | some { desc := .map kt et, .. } =>
    match ty.get kt, ty.get et, ix with
    | some ki, some ei, .d kx => match keyK ki with
      | some kc => match m with
        | .d (.lit (.map none)) => entR ei ok (ei.zero.map .lit) false K
        | .d (.lit (.map (some b))) => bif ok then .fail else lookHR ki ei σ b ix K
        | .map id => match σ[id]? with
          | some (.map ag es) => bif ag == ei.agg then
              .need (kc.ok kx ∧ ∀ e ∈ es, kc.ok e.1) (entR ei ok ((findM kc kx es).getD (ei.zero.map .lit)) (findM kc kx es).isSome K)
            else .fail
          | _ => .fail
        | _ => .fail
      | none => .fail
    | _, _, _ => .fail
  | _ => .fail
def mapUpdR (ty : Tys) (σ : Store) (L : List Nat) (t : TypeId) (m k v : AV) (K : Store → Res) : Res :=
  match ty.get t with
  | some { desc := .map kt et, .. } =>
    match ty.get kt, m, k with
    | some ki, .d (.lit (.map (some b))), _ => updHR ki σ L b k v K
    | some ki, .map id, .d kx => match keyK ki with
      | some kc => bif notIn L id then
          match σ[id]?, v with
          | some (.map true es), .d (.agg ds) => .need (kc.ok kx ∧ ∀ e ∈ es, kc.ok e.1) (forceL (σ.set id (.map true (setM kc kx ds es))) K)
          | some (.map false es), .d x => bif x.one then .need (kc.ok kx ∧ ∀ e ∈ es, kc.ok e.1) (forceL (σ.set id (.map false (setM kc kx [x] es))) K) else .fail
          | _, _ => .fail
        else .fail
      | none => .fail
    | _, _, _ => .fail
  | _ => .fail
/-- The first nil slice among cells as a row. -/
def rowCells (id : Nat) : List AV → List AV
  | [] => []
  | .d (.lit (.slice none 0 0)) :: r => .row id 0 0 0 :: r
  | c :: r => c :: rowCells id r
/-- A row that is appended to, as it is now. -/
def AV.fz (σ : Store) : AV → AV
  | .vec id n => match σ[id]? with
    | some (.vec sz _ cs) => .d (.sl n (cs.take (n * sz)))
    | _ => .vec id n
  | x => x
/-- Do values of this type lie in the heap? -/
def isHeapTy (ty : Tys) (t : TypeId) : Bool := match ty.get t with
  | some i => Nat.beq i.flag 9
  | none => false
def opR (ty : Tys) (o : Oper) (ev : Operand → AV) (L : List Nat) (σ : Store) (K : AV → Store → Res) : Res :=
  match o.op with
  | .move x => (ev x).force fun v => K v σ
  | .assign x => (ev x).force fun v => K v σ
  | .pick c a b => match ev c with
    | .d (.lit (.bool t)) => .ite t ((ev a).force fun v => K v σ) ((ev b).force fun v => K v σ)
    | _ => .fail
  | .alloc t => match ty.get t with
    | some i => bif Nat.ble 100 i.flag then lenK σ 0 fun id => forceC (rowCells id (litCells i.zero)) fun cs => forceL (σ ++ [.row (i.flag - 100) 0 [], .var cs]) fun σ => K (.ptr (id + 1) 0) σ
      else lenK σ 0 fun id => forceC (bif Nat.beq i.flag 1 then (litCells i.zero).map AV.soft else litCells i.zero) fun cs => forceL (σ ++ [.var cs]) fun σ => K (.ptr id 0) σ
    | none => .fail
  | .box t x => bif isHeapTy ty t then
      match σ, allD ((ev x).cells.map (AV.fz σ)) with
      | .heap ep H :: r, some ds => bif (ev x).known then .fa (fun a => H a = none) fun a => K (.d (.lit (.pointer (some ⟨a, 0, none⟩)))) (.heap ep (H.upd a (.cells ds)) :: r) else .fail
      | _, _ => .fail
    else bif (ev x).known then lenK σ 0 fun id => forceC (ev x).cells fun cs => forceL (σ ++ [.var cs]) fun σ => K (.ptr id 0) σ else .fail
  | .build t parts => match ty.get t with
    | some { desc := .struct fields, zero, flag, .. } =>
      match sizes ty fields with
      | some l => match fillA (fun i => l[i]?) (zeroA flag zero) (parts.toList.map fun p => (p.1, ev p.2)) with
        | some cs => (mkAgg cs).force fun v => K v σ
        | none => .fail
      | none => .fail
    | some { desc := .array n e sz, zero, flag, .. } =>
      match fillA (fun i => some (i * sz, sz)) (zeroA flag zero) (parts.toList.map fun p => (p.1, ev p.2)) with
      | some cs => (mkAgg cs).force fun v => K v σ
      | none => .fail
    | _ => .fail
  | .buildSlice t len parts => match ty.get t with
    | some { desc := .slice e sz _ _, flag, .. } =>
      match len with
      | 0 => match parts.toList with
        | [] => bif Nat.beq flag 7 then lenK σ 0 fun id => forceL (σ ++ [.row sz 0 []]) fun σ => K (.row id 0 0 0) σ
          else lenK σ 0 fun id => forceL (σ ++ [.vec sz 0 []]) fun σ => K (.vec id 0) σ
        | _ => .fail
      | len => bif Nat.ble (len * sz) 16777216 then match fillA (fun j => some (j * sz, sz)) (List.replicate (len * sz) .undef) (parts.toList.map fun p => (p.1, ev p.2)) with
          | some cs => match allD cs with
            | some ds => .alt (K (.d (.sl len ds)) σ) (lenK σ 0 fun id => forceL ds fun ds => forceL (σ ++ [.vec sz len ds]) fun σ => K (.vec id len) σ)
            | none => .fail
          | none => .fail
        else .fail
    | _ => .fail
  | .makeSlice t l c => match ty.get t, ev l, ev c with
    | some { desc := .slice e sz by_ _, flag, .. }, .d (.lit (.int .i64 n)), .d (.lit (.int .i64 m)) => match ty.get e with
      | some ie => match ie.zero with
        | [z] => .need (0 < n ∧ n = m ∧ sz = 1 ∧ n * by_ ≤ 140737488355328 ∧ n ≤ 9223372036854775807)
          (bif Nat.beq flag 7 then lenK σ 0 fun id => forceL (σ ++ [.row 1 0 (List.replicate n.toNat (.lit z))]) fun σ => K (.row id 0 0 n.toNat) σ
           else K (.d (.sl n.toNat (List.replicate n.toNat (.lit z)))) σ)
        | _ => .fail
      | none => .fail
    | _, _, _ => .fail
  | .load t a => match ty.get t with
    | some i => loadR σ i (ev a) fun v => K v σ
    | none => .fail
  | .store t a v => match ty.get t with
    | some i => storeR σ L i (ev a) (ev v) fun σ => K .undef σ
    | none => .fail
  | .nilCheck x => match ev x with
    | .ptr i o => K (.ptr i o) σ
    | .d (.lit (.pointer (some a))) => K (.d (.lit (.pointer (some a)))) σ
    | .d (.iface t x) => K (.d (.iface t x)) σ
    | .cell i e o => K (.cell i e o) σ
    | .d (.box cs o) => K (.d (.box cs o)) σ
    | .fn f cs => K (.fn f cs) σ
    | _ => .fail
  | .binOp op t x y _ => binR ty op t x y (ev x) (ev y) fun v => K v σ
  | .unOp op _ x => match op, ev x with
    | .not, .d (.lit (.bool b)) => K (.d (.lit (.bool (!b)))) σ
    | .neg, .d (.lit (.int k n)) => K (.d (.lit (.int k (k.wrap (0 - n))))) σ
    | _, _ => .fail
  | .convert src dst x => convR ty σ src dst (ev x) fun v => K v σ
  | .makeInterface t x => match ty.get t with
    | some { desc := .iface, .. } => .fail
    | some _ => match ev x with
      | .d y => K (.d (.iface t y)) σ
      | .ptr id 0 => match σ[id]? with
        | some (.var cs) => match allD cs with
          | some ds => forceL (σ.set id .dead) fun σ => K (.d (.iface t (.box ds 0))) σ
          | none => .fail
        | _ => .fail
      | _ => .fail
    | none => .fail
  | .makeFunc (.method name) first caps => match first.toList, caps.toList with
    | [r], [] => match ev r with
      | .d (.iface t (.lit v)) => K (.d (.lit (.func (.method name) #[.iface t v] #[]))) σ
      | _ => .fail
    | _, _ => .fail
  | .makeFunc (.func f) first caps => match first.toList with
    | [] => forceC (caps.toList.map ev) fun l => K (.fn f l) σ
    | _ => .fail
  | .slice t x lo hi none => sliceR ty σ t (ev x) (lo.map ev) (hi.map ev) fun v => K v σ
  | .slice t x (some lo) (some hi) (some mx) => slice3R ty t (ev x) (ev lo) (ev hi) (ev mx) fun v => K v σ
  | .fieldAddr t x f => match ty.get t with
    | some { desc := .struct fields, .. } => match fields[f]?, ev x with
      | some (fo, ft), .ptr id off => match ty.get ft with
        | some i => bif Nat.beq i.size 0 then .fail else K (.ptr id (off + fo)) σ
        | none => .fail
      | some (fo, ft), .d (.lit (.pointer (some ⟨b, off, none⟩))) => match ty.get ft with
        | some i => bif Nat.beq i.size 0 then .fail else K (.d (.lit (.pointer (some ⟨b, off + fo, none⟩)))) σ
        | none => .fail
      | some (fo, ft), .cell id ep off => match ty.get ft with
        | some i => bif Nat.beq i.size 0 then .fail else K (.cell id ep (off + fo)) σ
        | none => .fail
      | some (fo, ft), .d (.box cs off) => match ty.get ft with
        | some i => bif Nat.beq i.size 0 then .fail else K (.d (.box cs (off + fo))) σ
        | none => .fail
      | _, _ => .fail
    | _ => .fail
  | .field t x f => match ty.get t with
    | some { desc := .struct fields, .. } => match fields[f]? with
      | some (fo, ft) => match ty.get ft with
        | some i => match ev x with
          | .d (.agg cs) => fieldR i fo (cs.map .d) fun v => K v σ
          | .agg cs => fieldR i fo cs fun v => K v σ
          | _ => .fail
        | none => .fail
      | none => .fail
    | _ => .fail
  | .indexAddr t x ix => indexAddrR ty σ t (ev x) (ev ix) fun v => K v σ
  | .index t x ix => match ty.get t, ev x, ev ix with
    | some { desc := .str, .. }, .d (.lit (.string s)), .d (.lit (.int _ j)) =>
      .need (0 ≤ j ∧ j < s.size) (K (.d (.lit (.int .u8 (s.data.getD j.toNat 0).toNat))) σ)
    | _, _, _ => .fail
  | .makeMap t none => bif isHeapTy ty t then
      match σ with
      | .heap ep H :: r => .fa (fun a => H a = none) fun a => K (.d (.lit (.map (some a)))) (.heap ep (H.upd a (.imap [] 0)) :: r)
      | _ => .fail
    else match ty.get t with
    | some { desc := .map _ et, .. } => match ty.get et with
      | some ei => match ei.agg with
        | true => lenK σ 0 fun id => forceL (σ ++ [.map true []]) fun σ => K (.map id) σ
        | false => lenK σ 0 fun id => forceL (σ ++ [.map false []]) fun σ => K (.map id) σ
      | none => .fail
    | _ => .fail
  | .range t x => match ty.get t, ev x with
    | some { desc := .str, .. }, .d (.lit (.string s)) => lenK σ 0 fun id => forceL (σ ++ [.iter s 0]) fun σ => K (.iter id) σ
    | some { desc := .map _ _, .. }, .d (.lit (.map (some b))) => match σ with
      | .heap ep H :: r => .fa (fun a => H a = none) fun a => .exH (fun H' => ∃ es c, H b = some (.imap es c) ∧ H' = H.upd a (.miter b es [] c)) fun H' => K (.d (.lit (.pointer (some ⟨a, 0, none⟩)))) (.heap ep H' :: r)
      | _ => .fail
    | _, _ => .fail
  | .next it false => match σ, ev it with
    | .heap ep H :: r, .d (.lit (.pointer (some ⟨a, 0, none⟩))) => bif notIn L 0 then
        .alt (.need (∃ b es seen c, H a = some (.miter b es seen c) ∧ H b = some (.imap es c) ∧ ∀ e ∈ es, e.2.2 ∈ seen) (K (.tuple [.d (.lit (.bool false))]) (.heap ep H :: r)))
          (.need (∃ b es seen c, H a = some (.miter b es seen c) ∧ H b = some (.imap es c) ∧ ∃ e ∈ es, e.2.2 ∉ seen)
            (.fa (fun j => ∃ b es seen c, H a = some (.miter b es seen c) ∧ H b = some (.imap es c) ∧ j ∉ seen ∧ ∃ e ∈ es, e.2.2 = j) fun j =>
              .exH (fun H' => ∃ b es seen c, H a = some (.miter b es seen c) ∧ H b = some (.imap es c) ∧ H' = H.upd a (.miter b es (seen ++ [j]) c)) fun H' => K (.tuple [.d (.lit (.bool true)), .undef, .undef]) (.heap (ep + 1) H' :: r)))
      else .fail
    | _, _ => .fail
  | .entry it => match σ, ev it with
    | .heap ep H :: _, .d (.lit (.pointer (some ⟨a, 0, none⟩))) =>
      .exL (fun l => ∃ b es seen c e, H a = some (.miter b es (seen ++ [e.2.2]) c) ∧ H b = some (.imap es c) ∧ e ∈ es ∧ l = [.lit (.int .i64 e.1), .lit (.pointer (some ⟨e.2.1, 0, none⟩))]) fun l => match l with
        | [x, y] => (AV.d x).force fun x => (AV.d y).force fun y => K (.tuple [x, y]) σ
        | _ => .fail
    | _, _ => .fail
  | .next it true => match ev it with
    | .iter id => bif notIn L id then
        match σ[id]? with
        | some (.iter s pos) => .ite (decide (pos < s.size)) (forceL (σ.set id (.iter s (pos + (Utf8.decode s pos).2))) fun σ => K (.tuple [.d (.lit (.bool true)), .d (.lit (.int .i64 pos)), .d (.lit (.int .i32 (Utf8.decode s pos).1))]) σ) (K (.tuple [.d (.lit (.bool false))]) σ)
        | _ => .fail
      else .fail
    | _ => .fail
  | .lookup t m ix ok => lookupR ty σ t (ev m) (ev ix) ok fun v => K v σ
  | .mapUpdate t m k v => mapUpdR ty σ L t (ev m) (ev k) (ev v) fun σ => K .undef σ
  | .extract x i => match ev x with
    | .tuple vs => match vs[i]? with
      | some v => v.force fun v => K v σ
      | none => .fail
    | _ => .fail
  | .call c => match c.callee with
    | .builtin .len => match c.argTypes.toList, c.args.toList with
      | [t], [x] => lenR ty t (ev x) fun v => K v σ
      | _, _ => .fail
    | .builtin .append => match c.argTypes.toList, c.args.toList with
      | [t, t'], [s, x] => match ty.get t' with
        | some { desc := .slice _ _ _ _, .. } => appendR ty σ L t (ev s) (ev x) K
        | some { desc := .str, .. } => appendR ty σ L t (ev s) (ev x) K
        | _ => .fail
      | _, _ => .fail
    | .builtin .clear => match c.argTypes.toList, c.args.toList with
      | [t], [x] => clearR ty σ L t (ev x) K
      | _, _ => .fail
    | .builtin .max => match c.args.toList with
      | [x, y] => match ev x, ev y with
        | .d (.lit (.int k a)), .d (.lit (.int _ b)) => K (.d (.lit (.int k (if b > a then b else a)))) σ
        | _, _ => .fail
      | _ => .fail
    | .builtin .min => match c.args.toList with
      | [x, y] => match ev x, ev y with
        | .d (.lit (.int k a)), .d (.lit (.int _ b)) => K (.d (.lit (.int k (if b < a then b else a)))) σ
        | _, _ => .fail
      | _ => .fail
    | .value f => match ev f with
      | .fn g caps => forceC (c.args.toList.map ev ++ caps) fun l => .call g l σ L fun v σ => v.force fun v => K v σ
      | .d (.lit (.func (.method name) fst caps)) => match fst.toList, caps.toList with
        | [.iface t v], [] => .meth t v name fun g => forceC (.d (.lit v) :: c.args.toList.map ev) fun l => .call g l σ L fun v σ => v.force fun v => K v σ
        | _, _ => .fail
      | _ => .fail
    | .invoke r name => match ev r with
      | .d (.iface t (.lit v)) => .meth t v name fun g => forceC (.d (.lit v) :: c.args.toList.map ev) fun l => .call g l σ L fun v σ => v.force fun v => K v σ
      | _ => .fail
    | _ => .fail
  | _ => .fail

/-- The slot that guard j asks. -/
def guardSlot (all : List Oper) (j : Nat) : Option Tmp := match all[j]? with | some o => o.dst | none => none
/-- The blocks that a load reads. -/
def readsOf (o : Oper) (ev : Operand → AV) : List Nat := match o.op with
  | .load _ a => match ev a with | .ptr id _ => [id] | .cell id _ _ => [id] | .d (.lit (.pointer (some _))) => [0] | _ => []
  | .lookup _ m _ _ => match ev m with | .map id => [id] | .d (.lit (.map (some _))) => [0] | _ => []
  | .convert _ _ x => match ev x with | .win id _ _ => [id] | _ => []
  | _ => []
/-- One operation, its answer put where it goes. -/
def opP (ty : Tys) (o : Oper) (fr : Fr) (L : List Nat) (σ : Store) (K : Fr → Store → Res) : Res :=
  match o.dst with
  | some t => opR ty o (evF fr.get) L σ fun v σ => K ((t, v) :: fr) σ
  | none => opR ty o (evF fr.get) L σ fun _ σ => K fr σ
/-- One operation that isn't wanted. -/
def skipP (o : Oper) (fr : Fr) (σ : Store) (K : Fr → Store → Res) : Res :=
  match o.dst with
  | some t => K ((t, .d (.lit (.tuple #[]))) :: fr) σ
  | none => K fr σ
/-- One operation, if its guard wants it. -/
def oneP (ty : Tys) (all : List Oper) (o : Oper) (fr : Fr) (L : List Nat) (σ : Store) (K : Fr → Store → Res) : Res :=
  match o.guard with
  | none => opP ty o fr L σ K
  | some (j, want) => match guardSlot all j with
    | none => .fail
    | some t => match fr.get t with
      | .d (.lit (.bool b)) => cond want (.ite b (opP ty o fr L σ K) (skipP o fr σ K)) (.ite b (skipP o fr σ K) (opP ty o fr L σ K))
      | .d (.lit (.tuple _)) => skipP o fr σ K
      | _ => .fail
/-- Operations, one behind the other. -/
def opsR (ty : Tys) (all : List Oper) : List Oper → Fr → Store → (Fr → Store → Res) → Res
  | [], fr, σ, K => K fr σ
  | o :: rest, fr, σ, K => oneP ty all o fr [] σ fun fr σ => opsR ty all rest fr σ K
/-- Is it a string laid out as bytes anew? -/
def convS (ty : Tys) (o : Oper) : Bool := match o.op with
  | .convert s d _ => match ty.get s, ty.get d with
    | some { desc := .str, .. }, some { desc := .slice _ _ _ true, .. } => true
    | _, _ => false
  | _ => false
/-- Operations of a region that draws, in a given order; L: the blocks that were read. A number from 1000 on: by then all that was taken is done, in every order. -/
def opsD (ty : Tys) (all : List Oper) : List Nat → Fr → List Nat → Store → (Fr → Store → Res) → Res
  | [], fr, _, σ, K => K fr σ
  | i :: rest, fr, L, σ, K => bif Nat.ble 1000 i then match all[i - 1000]? with
      | some o => oneP ty all o fr [] σ fun fr' σ => opsD ty all rest fr' [] σ K
      | none => .fail
    else match all[i]? with
    | some o => bif convS ty o then .fail else oneP ty all o fr L σ fun fr' σ => forceL (readsOf o (evF fr.get) ++ L) fun L => opsD ty all rest fr' L σ K
    | none => .fail

/-- The orders in which regions that draw are gone through, by the regions' numbers. -/
abbrev Ords := List (Nat × List Nat)
def Ords.get : Ords → Nat → Option (List Nat)
  | [], _ => none
  | (j, l) :: r, i => bif Nat.beq j i then some l else Ords.get r i

/-- As opsD; a number from 2000 on: here two operations may be next, so that both are gone through: the rest of this order, and the order that bears the number. -/
def opsE (ty : Tys) (od : Ords) (all : List Oper) : List Nat → Fr → List Nat → Store → (Fr → Store → Res) → Res
  | [], fr, _, σ, K => K fr σ
  | i :: rest, fr, L, σ, K => bif Nat.ble 2000 i then match od.get i with
      | some l => .both (opsE ty od all rest fr L σ K) (opsD ty all l fr L σ K)
      | none => .fail
    else bif Nat.ble 1000 i then match all[i - 1000]? with
      | some o => oneP ty all o fr [] σ fun fr' σ => opsE ty od all rest fr' [] σ K
      | none => .fail
    else match all[i]? with
    | some o => bif convS ty o then .fail else oneP ty all o fr L σ fun fr' σ => forceL (readsOf o (evF fr.get) ++ L) fun L => opsE ty od all rest fr' L σ K
    | none => .fail

def codeR (ty : Tys) (od : Ords) : Code → Fr → Store → (AExit → Fr → Store → Res) → Res
  | .skip, fr, σ, K => K .normal fr σ
  | .region id ops draw, fr, σ, K =>
    bif draw then
      match od.get id with
      | some l => opsE ty od ops.toList l fr [] σ fun fr σ => K .normal fr σ
      | none => .fail
    else opsR ty ops.toList ops.toList fr σ fun fr σ => K .normal fr σ
  | .seq a b, fr, σ, K => codeR ty od a fr σ fun e fr σ => match e with
    | .normal => codeR ty od b fr σ K
    | .exit i => K (.exit i) fr σ
    | .ret => K .ret fr σ
  | .cond c a b, fr, σ, K => match evF fr.get c with
    | .d (.lit (.bool t)) => .ite t (codeR ty od a fr σ K) (codeR ty od b fr σ K)
    | _ => .fail
  | .block id body, fr, σ, K => codeR ty od body fr σ fun e fr σ => match e with
    | .normal => K .normal fr σ
    | .exit i => bif Nat.beq i id then K .normal fr σ else K (.exit i) fr σ
    | .ret => K .ret fr σ
  | .loop body, fr, σ, K => .loop (fun fr σ => codeR ty od body fr σ fun e fr σ => .ret e fr σ) fr σ K
  | .exit id, fr, σ, K => K (.exit id) fr σ
  | .ret, fr, σ, K => K .ret fr σ
  | _, _, _, _ => .fail

end Go.Am
