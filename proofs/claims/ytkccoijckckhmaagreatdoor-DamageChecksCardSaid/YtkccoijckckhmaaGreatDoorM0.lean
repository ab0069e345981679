/-
  A deterministic evaluator of translated Go functions over plain values: its definition. Slices that nobody writes any more are lists of cells; what is being written lies in a store of numbered rows.
  The evaluator's own form of a translated function, made from it: 'compile' tells it, or nothing where the evaluator does not serve.
  What the evaluator's plain values say of a world: 'Rd' (a value reads as a plain value), 'Inv' (the store's rows lie in blocks of the call's own), and that both stand while memory grows.
  Each operation that leaves the store as it is does in the machine what the evaluator says.
  Loads, indexes, slices and the other operations that leave the store as it is.
  The quiet operations, one by one.
  The quiet operations, continued: structs, literals, loads, indexes.
  The quiet operations, continued: literals, loads, indexes, slices, conversions.
  The quiet operations, the last of them: loads, addresses, slices, conversions, calls by contract.
  Calls by contract; and all quiet operations in one theorem.
-/
import Derived.Calls
import Derived.Orders
import Derived.Below
import Derived.Laws.World
import Derived.Lib.ItoaNum
import Derived.RangeFuncOwn
import Derived.Laws.Sem
import Derived.Laws.StructEq
import Derived.Lib.ConvBytes
import Derived.Laws.IdiomStrings
import Derived.Laws.Build
set_option linter.all false

namespace Go.Proofs.YtkccoijckckhmaaGreatDoor.Ev
open Go

/-- Plain values: 'sl' a slice that is not written any more (its elements, each a list of cells), 'ms' a slice of a row of the store (row, cells per element, first element, number of elements), 'mp' a pointer to a cell of an element of a row, 'ip' a pointer to cells that are not written any more, 'z' a slice of capacity 0, 'un' what nobody knows. -/
inductive PV where
  | un
  | int (k : IntKind) (n : Int)
  | bool (b : Bool)
  | str (s : ByteArray)
  | nilI | anyI | nilP | nilF
  | z (isNil : Bool)
  | sl (esz : Nat) (es : List (List PV))
  | ms (id esz off n : Nat)
  | mp (id esz i j : Nat)
  | ip (cs : List PV)
  | agg (cs : List PV)
  | tup (vs : List PV)
  | fn (f : FuncId) (caps : List PV)
  deriving Inhabited

/-- A row of the store: cells per element, the elements, and whether it may still be written. -/
structure Tok where
  esz : Nat
  es : List (List PV)
  live : Bool

abbrev Store := List Tok
abbrev Env := Nat → PV

def Env.set (e : Env) (t : Nat) (v : PV) : Env := fun u => bif Nat.beq u t then v else e u
def Env.put (e : Env) (d : Option Nat) (v : PV) : Env := match d with | some t => e.set t v | none => e
def Env.of : List PV → Nat → Env
  | [], _ => fun _ => .un
  | v :: vs, i => fun u => bif Nat.beq u i then v else Env.of vs (i + 1) u

/-- Operands: a slot, or a constant. -/
inductive SV where
  | t (n : Nat)
  | k (v : PV)

def SV.ev (e : Env) : SV → PV
  | .t n => e n
  | .k v => v

inductive SOp where
  | mv (x : SV)
  | pick (c a b : SV)
  | bin (op : BinOp) (x y : SV)
  | beq (neq : Bool) (x y : SV)
  | eqs (n : Nat) (neq : Bool) (x y : SV)
  | nilq (kd : Nat) (neq : Bool) (x : SV)
  | un (op : UnOp) (x : SV)
  | conv (k : IntKind) (x : SV)
  | convs (x : SV)
  | ext (i : Nat) (x : SV)
  | fld (off n : Nat) (agg : Bool) (x : SV)
  | bld (zero : List PV) (parts : List (Nat × Nat × SV))
  | bsl (esz : Nat) (zero : List PV) (n : Nat) (parts : List (Nat × SV))
  | box (n : Nat) (x : SV)
  | alc (zero : List PV)
  | ld (n : Nat) (agg : Bool) (x : SV)
  | st (n : Nat) (x v : SV)
  | fad (k : Nat) (x : SV)
  | iad (esz : Nat) (x i : SV)
  | iada (len esz : Nat) (x i : SV)
  | idxs (x i : SV)
  | idxa (len esz : Nat) (agg : Bool) (x i : SV)
  | mks (esz : Nat) (zero : List PV) (n c : SV)
  | slcs (x : SV) (lo hi : Option SV)
  | slc (esz : Nat) (x : SV) (lo hi : Option SV)
  | slc0 (x : SV)
  | mkf (f : FuncId) (caps : List SV)
  | nck (x : SV)
  | mki (x : SV)
  | callR (f : SV) (args : List SV)
  | callW (f : SV) (args : List SV)
  | app (esz : Nat) (s x : SV)
  | appz (esz : Nat) (zero : List PV) (s n : SV)
  | cpy (esz : Nat) (d s : SV)
  | len (x : SV)
  | lens (x : SV)
  | mm (isMax : Bool) (xs : List SV)
  | b2s (x : SV)
  | s2b (x : SV)
  | pan

structure SOper where
  dst : Option Nat
  op : SOp
  guard : Option (Nat × Bool)

inductive SCode where
  | skip
  | reg (ops : List SOper)
  | seq (a b : SCode)
  | cond (c : SV) (a b : SCode)
  | blk (id : Nat) (a : SCode)
  | loop (a : SCode)
  | exit (id : Nat)
  | ret

inductive SRes where
  | t (n : Nat)
  | c (n cells : Nat) (agg : Bool)

structure SFunc where
  np : Nat
  res : List SRes
  body : SCode

/-- What is known of functions: a contract's function (no store), and compiled bodies. -/
structure Tab where
  pure : FuncId → Option (List PV → Option PV)
  body : FuncId → Option SFunc

def cellsOf : PV → List PV
  | .agg cs => cs
  | v => [v]

/-- May the value be a struct or array (flat cells)? Values of one cell are all others but tuples and what nobody knows. -/
def one : PV → Bool
  | .agg _ | .tup _ | .un => false
  | _ => true

def joinCells (n : Nat) (agg : Bool) (cs : List PV) : Option PV :=
  match agg with
  | true => if n ≤ cs.length then some (.agg (cs.take n)) else none
  | false => cs[0]?

/-- The value's cells, if there are n of them. -/
def nCells (n : Nat) (v : PV) : Option (List PV) :=
  match v with
  | .agg cs => if cs.length = n then some cs else none
  | .tup _ => none
  | .un => none
  | v => if n = 1 then some [v] else none

def spliceAt (cs : List PV) (off : Nat) (vs : List PV) : List PV := cs.take off ++ vs ++ cs.drop (off + vs.length)

/-- Are there no rows of the store in a value? -/
inductive Pure : PV → Prop
  | un : Pure .un
  | int (k n) : Pure (.int k n)
  | bool (b) : Pure (.bool b)
  | str (s) : Pure (.str s)
  | nilI : Pure .nilI
  | anyI : Pure .anyI
  | nilP : Pure .nilP
  | nilF : Pure .nilF
  | z (b) : Pure (.z b)
  | sl (esz es) (h : ∀ cs, cs ∈ es → ∀ x, x ∈ cs → Pure x) : Pure (.sl esz es)
  | ip (cs) (h : ∀ x, x ∈ cs → Pure x) : Pure (.ip cs)
  | agg (cs) (h : ∀ x, x ∈ cs → Pure x) : Pure (.agg cs)
  | tup (cs) (h : ∀ x, x ∈ cs → Pure x) : Pure (.tup cs)
  | fn (f cs) (h : ∀ x, x ∈ cs → Pure x) : Pure (.fn f cs)

/-- Is it a value without memory? -/
def flat1 : PV → Bool
  | .int .. | .bool _ | .str _ | .nilI | .un | .anyI => true
  | _ => false
def flat : PV → Bool
  | .agg cs => cs.all flat1
  | .tup vs => vs.all fun | .agg cs => cs.all flat1 | v => flat1 v
  | v => flat1 v

def evBinInt (op : BinOp) (k : IntKind) (a b : Int) : Option PV :=
  match op with
  | .add => some (.int k (k.wrap (a + b)))
  | .sub => some (.int k (k.wrap (a - b)))
  | .mul => some (.int k (k.wrap (a * b)))
  | .quo => if b = 0 then none else some (.int k (k.wrap (a.tdiv b)))
  | .rem => if b = 0 then none else some (.int k (a.tmod b))
  | .and => some (.int k (k.wrap (BitVec.ofInt k.bits a &&& BitVec.ofInt k.bits b).toNat))
  | .or => some (.int k (k.wrap (BitVec.ofInt k.bits a ||| BitVec.ofInt k.bits b).toNat))
  | .xor => some (.int k (k.wrap (BitVec.ofInt k.bits a ^^^ BitVec.ofInt k.bits b).toNat))
  | .eql => some (.bool (a == b))
  | .neq => some (.bool (a != b))
  | .lss => some (.bool (decide (a < b)))
  | .leq => some (.bool (decide (a ≤ b)))
  | .gtr => some (.bool (decide (a > b)))
  | .geq => some (.bool (decide (a ≥ b)))
  | _ => none

def evBinStr (op : BinOp) (a b : ByteArray) : Option PV :=
  match op with
  | .add => if a.size + b.size ≤ 4611686018427387904 then some (.str (a ++ b)) else none
  | .eql => some (.bool (a.data.toList == b.data.toList))
  | .neq => some (.bool (!(a.data.toList == b.data.toList)))
  | .lss => some (.bool (Op.bytesLess a.data.toList b.data.toList))
  | .gtr => some (.bool (!(Op.bytesLess a.data.toList b.data.toList || a.data.toList == b.data.toList)))
  | .leq => some (.bool (Op.bytesLess a.data.toList b.data.toList || a.data.toList == b.data.toList))
  | .geq => some (.bool (!(Op.bytesLess a.data.toList b.data.toList)))
  | _ => none

def evBin (op : BinOp) (x y : PV) : Option PV :=
  match x, y with
  | .int k a, .int k' b =>
    match op with
    | .shl => if b < 0 then none else some (.int k (k.wrap (a * 2 ^ min b.toNat k.bits)))
    | .shr => if b < 0 then none else some (.int k (a.fdiv (2 ^ min b.toNat k.bits)))
    | _ => if k = k' then evBinInt op k a b else none
  | .str a, .str b => evBinStr op a b
  | _, _ => none

/-- '==' of structs of strings. -/
def eqCells : List PV → List PV → Option Bool
  | [], [] => some true
  | .str a :: xs, .str b :: ys => if (a == b) = true then eqCells xs ys else if xs.length = ys.length then some false else none
  | _, _ => none

/-- '==' with nil: of interfaces (0), slices (1), functions (2), pointers (3). -/
def evNilq : Nat → PV → Option Bool
  | 0, .nilI => some true
  | 0, .anyI => some false
  | 1, .z b => some b
  | 1, .sl .. => some false
  | 1, .ms .. => some false
  | 2, .nilF => some true
  | 2, .fn .. => some false
  | 3, .nilP => some true
  | 3, .mp .. => some false
  | 3, .ip _ => some false
  | _, _ => none

def evUn (op : UnOp) (x : PV) : Option PV :=
  match op, x with
  | .neg, .int k n => some (.int k (k.wrap (0 - n)))
  | .not, .bool b => some (.bool (!b))
  | .xor, .int k n => some (.int k (k.wrap (BitVec.ofInt k.bits (if k.signed then -1 else k.max) ^^^ BitVec.ofInt k.bits n).toNat))
  | _, _ => none

def asI : PV → Option Int
  | .int _ n => some n
  | _ => none

/-- A bound, or what stands for none. -/
def optI (e : Env) (d : Int) : Option SV → Option Int
  | some v => asI (v.ev e)
  | none => some d

/-- Parts put into the cells of a struct. -/
def fillParts (e : Env) : List (Nat × Nat × SV) → List PV → Option (List PV)
  | [], cs => some cs
  | (off, n, x) :: ps, cs => match nCells n (x.ev e) with
    | some vs => if off + n ≤ cs.length then fillParts e ps (spliceAt cs off vs) else none
    | none => none

def fillElems (e : Env) (esz : Nat) : List (Nat × SV) → List (List PV) → Option (List (List PV))
  | [], es => some es
  | (i, x) :: ps, es => match nCells esz (x.ev e) with
    | some vs => if i < es.length then fillElems e esz ps (es.set i vs) else none
    | none => none

def mmGo (isMax : Bool) (k : IntKind) : Int → List PV → Option PV
  | x, [] => some (.int k x)
  | x, .int k' y :: rest => if k = k' then mmGo isMax k (bif isMax then (if y > x then y else x) else (if y < x then y else x)) rest else none
  | _, _ => none
def mmInt (isMax : Bool) : List PV → Option PV
  | .int k x :: rest => mmGo isMax k x rest
  | _ => none

def bytesOfEs : List (List PV) → Option (List UInt8)
  | [] => some []
  | [.int .u8 n] :: es => if 0 ≤ n ∧ n < 256 then (bytesOfEs es).map (UInt8.ofNat n.toNat :: ·) else none
  | _ => none

/-- A value as a callee that makes no results in memory may read it: slices of rows as they now stand. -/
def snap (ρ : Store) : PV → Option PV
  | .ms id esz off n => match ρ[id]? with
    | some k => if k.esz = esz ∧ off + n ≤ k.es.length then some (.sl esz ((k.es.drop off).take n)) else none
    | none => none
  | v => some v

def snapAll (ρ : Store) : List PV → Option (List PV)
  | [] => some []
  | v :: vs => match snap ρ v, snapAll ρ vs with
    | some x, some xs => some (x :: xs)
    | _, _ => none

def hasMs : List PV → Bool
  | [] => false
  | .ms .. :: _ => true
  | _ :: vs => hasMs vs

/-- What is appended: elements. -/
def appElems (esz : Nat) (ρ : Store) : PV → Option (List (List PV))
  | .z _ => some []
  | .sl esz' es => if esz' = esz then some es else none
  | .ms id esz' off n => match ρ[id]? with
    | some k => if esz' = esz ∧ k.esz = esz ∧ off + n ≤ k.es.length then some ((k.es.drop off).take n) else none
    | none => none
  | .str s => if esz = 1 then some (s.data.toList.map fun b => [.int .u8 b.toNat]) else none
  | _ => none

def cpyElems (esz : Nat) (ρ : Store) : PV → Option (List (List PV))
  | .str _ => none
  | p => appElems esz ρ p

/-- An append of elements. -/
def appTo (esz : Nat) (s : PV) (new : List (List PV)) (ρ : Store) : Option (PV × Store) :=
  if new.all (fun cs => cs.all one) = true then
  match s with
  | .z b => if new.length = 0 then some (.z b, ρ) else if new.length ≤ 1073741824 then some (.ms ρ.length esz 0 new.length, ρ ++ [⟨esz, new, true⟩]) else none
  | .ms id esz' off n => match ρ[id]? with
    | some k => if esz' = esz ∧ k.esz = esz ∧ off = 0 ∧ n ≤ k.es.length ∧ k.live = true ∧ n + new.length ≤ 1073741824 then
        some (.ms ρ.length esz 0 (n + new.length), (ρ.set id ⟨esz, [], false⟩) ++ [⟨esz, k.es.take n ++ new, true⟩]) else none
    | none => none
  | _ => none
  else none

def evOp (T : Tab) (call : FuncId → List PV → Store → Option (PV × Store)) (e : Env) (ρ : Store) : SOp → Option (PV × Store)
  | .mv x => some (x.ev e, ρ)
  | .pick c a b => match c.ev e with | .bool t => some (bif t then a.ev e else b.ev e, ρ) | _ => none
  | .bin op x y => match evBin op (x.ev e) (y.ev e) with | some v => some (v, ρ) | none => none
  | .beq neq x y => match x.ev e, y.ev e with | .bool a, .bool b => some (.bool (bif neq then !(a == b) else a == b), ρ) | _, _ => none
  | .eqs n neq x y => match x.ev e, y.ev e with
    | .agg xs, .agg ys => if xs.length = n then (match eqCells xs ys with | some b => some (.bool (bif neq then !b else b), ρ) | none => none) else none
    | _, _ => none
  | .nilq kd neq x => match evNilq kd (x.ev e) with | some b => some (.bool (bif neq then !b else b), ρ) | none => none
  | .un op x => match evUn op (x.ev e) with | some v => some (v, ρ) | none => none
  | .conv k x => match x.ev e with | .int _ n => some (.int k (k.wrap n), ρ) | _ => none
  | .convs x => match x.ev e with | .str s => some (.str s, ρ) | _ => none
  | .ext i x => match x.ev e with | .tup vs => (match vs[i]? with | some v => some (v, ρ) | none => none) | _ => none
  | .fld off n agg x => match x.ev e with
    | .agg cs => if off + n ≤ cs.length then (match joinCells n agg (cs.drop off) with | some v => some (v, ρ) | none => none) else none
    | _ => none
  | .bld zero parts => match fillParts e parts zero with | some cs => some (.agg cs, ρ) | none => none
  | .bsl esz zero n parts => match fillElems e esz parts (List.replicate n zero) with
    | some es => some (if n = 0 then .z false else .sl esz es, ρ)
    | none => none
  | .box n x => match nCells n (x.ev e) with | some cs => some (.mp ρ.length n 0 0, ρ ++ [⟨n, [cs], true⟩]) | none => none
  | .alc zero => some (.mp ρ.length zero.length 0 0, ρ ++ [⟨zero.length, [zero], true⟩])
  | .ld n agg x => match x.ev e with
    | .ip cs => (match joinCells n agg cs with | some v => some (v, ρ) | none => none)
    | .mp id esz i j => match ρ[id]? with
      | some k => if k.esz = esz then (match k.es[i]? with
        | some cs => (match joinCells n agg (cs.drop j) with | some v => some (v, ρ) | none => none)
        | none => none) else none
      | none => none
    | _ => none
  | .st n x v => match x.ev e with
    | .mp id esz i j => match ρ[id]? with
      | some k => if k.esz = esz ∧ k.live = true then (match k.es[i]?, nCells n (v.ev e) with
        | some cs, some vs => if j + n ≤ cs.length ∧ vs.all one = true then some (.tup [], ρ.set id ⟨esz, k.es.set i (spliceAt cs j vs), true⟩) else none
        | _, _ => none) else none
      | none => none
    | _ => none
  | .fad k x => match x.ev e with
    | .ip cs => some (.ip (cs.drop k), ρ)
    | .mp id esz i j => some (.mp id esz i (j + k), ρ)
    | _ => none
  | .iad esz x i => match x.ev e, asI (i.ev e) with
    | .sl esz' es, some n => if esz' = esz ∧ 0 ≤ n then (match es[n.toNat]? with | some cs => some (.ip cs, ρ) | none => none) else none
    | .ms id esz' off m, some n => if esz' = esz ∧ 0 ≤ n ∧ n < m then some (.mp id esz (off + n.toNat) 0, ρ) else none
    | _, _ => none
  | .iada len esz x i => match x.ev e, asI (i.ev e) with
    | .mp id E a j, some n => if 0 ≤ n ∧ n < len then some (.mp id E a (j + n.toNat * esz), ρ) else none
    | .ip cs, some n => if 0 ≤ n ∧ n < len then some (.ip (cs.drop (n.toNat * esz)), ρ) else none
    | _, _ => none
  | .idxs x i => match x.ev e, asI (i.ev e) with
    | .str s, some n => if 0 ≤ n then (match s[n.toNat]? with | some b => some (.int .u8 b.toNat, ρ) | none => none) else none
    | _, _ => none
  | .idxa len esz agg x i => match x.ev e, asI (i.ev e) with
    | .agg cs, some n => if 0 ≤ n ∧ n < len ∧ len * esz ≤ cs.length then (match joinCells esz agg (cs.drop (n.toNat * esz)) with | some v => some (v, ρ) | none => none) else none
    | _, _ => none
  | .mks esz zero n c => match n.ev e, c.ev e with
    | .int .i64 a, .int .i64 b => if 0 ≤ a ∧ a ≤ b ∧ b ≤ 1073741824 then some (.ms ρ.length esz 0 a.toNat, ρ ++ [⟨esz, List.replicate a.toNat zero, true⟩]) else none
    | _, _ => none
  | .slcs x lo hi => match x.ev e with
    | .str s =>
      match optI e 0 lo, optI e (s.size : Int) hi with
      | some l, some h => if 0 ≤ l ∧ l ≤ h ∧ h ≤ s.size then some (.str (s.extract l.toNat h.toNat), ρ) else none
      | _, _ => none
    | _ => none
  | .slc esz x lo hi =>
    match optI e 0 lo with
    | none => none
    | some l => match x.ev e with
      | .z b => match optI e 0 hi with
        | some h => if l = 0 ∧ h = 0 then some (.z b, ρ) else none
        | none => none
      | .sl esz' es => match optI e (es.length : Int) hi with
        | some h => if esz' = esz ∧ 0 ≤ l ∧ l ≤ h ∧ h ≤ es.length then some (.sl esz ((es.drop l.toNat).take (h.toNat - l.toNat)), ρ) else none
        | none => none
      | .ms id esz' off n => match optI e (n : Int) hi with
        | some h => if esz' = esz ∧ 0 ≤ l ∧ l ≤ h ∧ h ≤ n ∧ (l = 0 ∨ l < n) then some (.ms id esz (off + l.toNat) (h.toNat - l.toNat), ρ) else none
        | none => none
      | _ => none
  | .slc0 x => match x.ev e with
    | .z b => some (.z b, ρ)
    | .sl .. | .ms .. => some (.z false, ρ)
    | _ => none
  | .mkf f caps => some (.fn f (caps.map (SV.ev e)), ρ)
  | .nck x => match x.ev e with
    | .mp id esz i j => some (.mp id esz i j, ρ)
    | .ip cs => some (.ip cs, ρ)
    | .fn f caps => some (.fn f caps, ρ)
    | _ => none
  | .mki _ => some (.anyI, ρ)
  | .callR f args => match f.ev e with
    | .fn g caps => match T.pure g, snapAll ρ (args.map (SV.ev e) ++ caps) with
      | some p, some vs => match p vs with
        | some r => if hasMs (args.map (SV.ev e) ++ caps) && !flat r then none else some (r, ρ)
        | none => none
      | _, _ => none
    | _ => none
  | .callW f args => match f.ev e with
    | .fn g caps => call g (args.map (SV.ev e) ++ caps) ρ
    | _ => none
  | .app esz s x => match appElems esz ρ (x.ev e) with
    | some new => appTo esz (s.ev e) new ρ
    | none => none
  | .appz esz zero s n => match n.ev e with
    | .int .i64 m => if 0 ≤ m ∧ m ≤ 1073741824 then appTo esz (s.ev e) (List.replicate m.toNat zero) ρ else none
    | _ => none
  | .cpy esz d s => match d.ev e, cpyElems esz ρ (s.ev e) with
    | .ms id esz' off n, some new => match ρ[id]? with
      | some k => if esz' = esz ∧ k.esz = esz ∧ k.live = true ∧ off + n ≤ k.es.length ∧ new.all (fun cs => cs.all one) = true then some (.int .i64 (min new.length n : Nat), ρ.set id ⟨esz, k.es.take off ++ new.take n ++ k.es.drop (off + min new.length n), true⟩) else none
      | none => none
    | _, _ => none
  | .lens x => match x.ev e with
    | .str s => some (.int .i64 s.size, ρ)
    | _ => none
  | .len x => match x.ev e with
    | .z _ => some (.int .i64 0, ρ)
    | .sl _ es => some (.int .i64 es.length, ρ)
    | .ms _ _ _ n => some (.int .i64 n, ρ)
    | _ => none
  | .mm isMax xs => match mmInt isMax (xs.map (SV.ev e)) with | some v => some (v, ρ) | none => none
  | .b2s x => match x.ev e with
    | .z _ => some (.str .empty, ρ)
    | .sl 1 es => match bytesOfEs es with | some l => some (.str ⟨l.toArray⟩, ρ) | none => none
    | .ms id 1 off n => match ρ[id]? with
      | some k => if k.esz = 1 ∧ off + n ≤ k.es.length then (match bytesOfEs ((k.es.drop off).take n) with | some l => some (.str ⟨l.toArray⟩, ρ) | none => none) else none
      | none => none
    | _ => none
  | .s2b x => match x.ev e with
    | .str s => some (.sl 1 (s.data.toList.map fun b => [.int .u8 b.toNat]), ρ)
    | _ => none
  | .pan => none

/-- Is an operation with this guard carried out? -/
def want (e : Env) : Option (Nat × Bool) → Option Bool
  | none => some true
  | some (t, b) => match e t with | .bool c => some (c == b) | .tup [] => some false | _ => none

def evOps (T : Tab) (call : FuncId → List PV → Store → Option (PV × Store)) : List SOper → Env → Store → Option (Env × Store)
  | [], e, ρ => some (e, ρ)
  | o :: os, e, ρ => match want e o.guard with
    | some true => match evOp T call e ρ o.op with
      | some (v, ρ') => evOps T call os (e.put o.dst v) ρ'
      | none => none
    | some false => evOps T call os (e.put o.dst (.tup [])) ρ
    | none => none

inductive Ex where
  | nor | ex (id : Nat) | ret

def loopN (step : Env → Store → Option (Ex × Env × Store)) : Nat → Env → Store → Option (Ex × Env × Store)
  | 0, _, _ => none
  | k + 1, e, ρ => match step e ρ with
    | some (.nor, e', ρ') => loopN step k e' ρ'
    | r => r

def evC (T : Tab) (call : FuncId → List PV → Store → Option (PV × Store)) (L : Nat) : SCode → Env → Store → Option (Ex × Env × Store)
  | .skip, e, ρ => some (.nor, e, ρ)
  | .reg ops, e, ρ => match evOps T call ops e ρ with | some (e', ρ') => some (.nor, e', ρ') | none => none
  | .seq a b, e, ρ => match evC T call L a e ρ with
    | some (.nor, e', ρ') => evC T call L b e' ρ'
    | r => r
  | .cond c a b, e, ρ => match c.ev e with
    | .bool true => evC T call L a e ρ
    | .bool false => evC T call L b e ρ
    | _ => none
  | .blk id a, e, ρ => match evC T call L a e ρ with
    | some (.ex id', e', ρ') => if id' = id then some (.nor, e', ρ') else some (.ex id', e', ρ')
    | r => r
  | .loop a, e, ρ => loopN (evC T call L a) L e ρ
  | .exit id, e, ρ => some (.ex id, e, ρ)
  | .ret, e, ρ => some (.ret, e, ρ)

def resOf (e : Env) (ρ : Store) : SRes → Option PV
  | .t n => some (e n)
  | .c n cells agg => match e n with
    | .mp id esz i j => match ρ[id]? with
      | some k => if k.esz = esz then (match k.es[i]? with | some cs => joinCells cells agg (cs.drop j) | none => none) else none
      | none => none
    | _ => none

def resAll (e : Env) (ρ : Store) : List SRes → Option (List PV)
  | [] => some []
  | r :: rs => match resOf e ρ r, resAll e ρ rs with
    | some v, some vs => some (v :: vs)
    | _, _ => none

def oneRes : List PV → PV
  | [v] => v
  | vs => .tup vs

/-- A function's value: d calls deep, L rounds a loop. -/
def evF (T : Tab) (L : Nat) : Nat → FuncId → List PV → Store → Option (PV × Store)
  | 0, _, _, _ => none
  | d + 1, f, args, ρ => match T.body f with
    | none => none
    | some s => if args.length = s.np then
        match evC T (evF T L d) L s.body (Env.of args 0) ρ with
        | some (.nor, e, ρ') | some (.ret, e, ρ') => (match resAll e ρ' s.res with | some vs => some (oneRes vs, ρ') | none => none)
        | _ => none
      else none

end Go.Proofs.YtkccoijckckhmaaGreatDoor.Ev

namespace Go.Proofs.YtkccoijckckhmaaGreatDoor.Ev
open Go

def kv1 : Value → Option PV
  | .bool b => some (.bool b)
  | .int k n => some (.int k n)
  | .string s => some (.str s)
  | .nilIface => some .nilI
  | .pointer none => some .nilP
  | .nilFunc => some .nilF
  | .slice none 0 0 => some (.z true)
  | _ => none

def kvs : List Value → Option (List PV)
  | [] => some []
  | v :: vs => match kv1 v, kvs vs with | some x, some xs => some (x :: xs) | _, _ => none

def kv : Value → Option PV
  | .agg cs => match kvs cs.toList with | some xs => some (.agg xs) | none => none
  | v => kv1 v

def cSV : Operand → Option SV
  | .tmp t => some (.t t)
  | .const v => match kv v with | some x => some (.k x) | none => none
  | .func f => some (.k (.fn f []))
  | .global _ => none

def cSVs : List Operand → Option (List SV)
  | [] => some []
  | x :: xs => match cSV x, cSVs xs with | some y, some ys => some (y :: ys) | _, _ => none

def cOpt : Option Operand → Option (Option SV)
  | none => some none
  | some x => match cSV x with | some y => some (some y) | none => none

/-- Of which kind is this nil? -/
def nilKind : Operand → Option Nat
  | .const .nilIface => some 0
  | .const (.slice none 0 0) => some 1
  | .const .nilFunc => some 2
  | .const (.pointer none) => some 3
  | _ => none

def typeKind : Option TypeDesc → Option Nat
  | some (.interface _) => some 0
  | some (.slice _) => some 1
  | some (.func ..) => some 2
  | some (.pointer _) => some 3
  | _ => none

def aggT (P : Program) (t : TypeId) : Option Bool := match P.underlying t with
  | some (.struct _) | some (.array _ _) => some true
  | some _ => some false
  | none => none

def sizeT (P : Program) (t : TypeId) : Option Nat := (P.info? t).map (·.size)

def zeroT (P : Program) (t : TypeId) : Option (List PV) := match P.info? t with
  | some i => (match i.zero with | some v => kvs v.cells.toList | none => none)
  | none => none

/-- A struct whose fields are strings, one cell each. -/
def strFields (P : Program) : List Field → Nat → Bool
  | [], _ => true
  | f :: r, n => (f.name != "_") && (f.offset == n) && (match P.underlying f.type with | some .string => true | _ => false) && strFields P r (n + 1)

def cBuildS (P : Program) (fields : Array Field) : List (Nat × Operand) → Option (List (Nat × Nat × SV))
  | [] => some []
  | (i, x) :: ps => match fields[i]? with
    | none => none
    | some f => match sizeT P f.type, cSV x, cBuildS P fields ps with
      | some n, some y, some r => some ((f.offset, n, y) :: r)
      | _, _, _ => none

def cBuildA (n : Nat) : List (Nat × Operand) → Option (List (Nat × Nat × SV))
  | [] => some []
  | (i, x) :: ps => match cSV x, cBuildA n ps with
    | some y, some r => some ((i * n, n, y) :: r)
    | _, _ => none

def cElems : List (Nat × Operand) → Option (List (Nat × SV))
  | [] => some []
  | (i, x) :: ps => match cSV x, cElems ps with
    | some y, some r => some ((i, y) :: r)
    | _, _ => none

def cBin (P : Program) (op : BinOp) (t : TypeId) (x y : Operand) : Option SOp :=
  match cSV x, cSV y with
  | some a, some b =>
    match P.underlying t with
    | some (.int _) | some .string => some (.bin op a b)
    | some .bool => (match op with | .eql => some (.beq false a b) | .neq => some (.beq true a b) | _ => none)
    | some (.struct fs) =>
      if strFields P fs.toList 0 && !P.eqGuardType P.depth t && !P.stoodInHeld t then
        (match op with | .eql => some (.eqs fs.size false a b) | .neq => some (.eqs fs.size true a b) | _ => none) else none
    | d => match typeKind d with
      | some kd =>
        if nilKind y = some kd then (match op with | .eql => some (.nilq kd false a) | .neq => some (.nilq kd true a) | _ => none)
        else if nilKind x = some kd then (match op with | .eql => some (.nilq kd false b) | .neq => some (.nilq kd true b) | _ => none)
        else none
      | none => none
  | _, _ => none

/-- pureF: is this callee taken by its contract? -/
def cCall (P : Program) (rc : FuncId → Bool) (c : Call) : Option SOp :=
  match c.callee, cSVs c.args.toList with
  | .value (.func f), some args => if rc f then some (.callR (.k (.fn f [])) args) else some (.callW (.k (.fn f [])) args)
  | .value (.tmp t), some args => if rc (1000000 + t) then some (.callR (.t t) args) else some (.callW (.t t) args)
  | .builtin .len, some [x] => (match c.argTypes.toList with
    | [t] => (match P.underlying t with | some .string => some (.lens x) | some (.slice _) => some (.len x) | _ => none)
    | _ => none)
  | .builtin .min, some xs => if 1 ≤ xs.length then some (.mm false xs) else none
  | .builtin .max, some xs => if 1 ≤ xs.length then some (.mm true xs) else none
  | .builtin .copy, some [d, s] => (match c.argTypes.toList with
    | [t, _] => (match P.underlying t with
      | some (.slice el) => (match sizeT P el with | some n => some (.cpy n d s) | none => none)
      | _ => none)
    | _ => none)
  | .builtin .append, some [s, x] => (match c.argTypes.toList with
    | [t, u] => (match P.underlying t, P.underlying u with
      | some (.slice el), some (.slice _) | some (.slice el), some .string => (match P.info? el with
        | some i => if i.bytes ≤ 65536 ∧ i.size ≠ 0 ∧ i.zero.isSome ∧ (i.zero.map (fun v => v.cells.size)) = some i.size then some (.app i.size s x) else none
        | none => none)
      | some (.slice el), some (.int _) => (match P.info? el, zeroT P el with
        | some i, some z => if i.bytes ≤ 65536 ∧ i.size ≠ 0 ∧ z.length = i.size then some (.appz i.size z s x) else none
        | _, _ => none)
      | _, _ => none)
    | _ => none)
  | _, _ => none

def cOp (P : Program) (rc : FuncId → Bool) : Op → Option SOp
  | .move x | .assign x => (cSV x).map .mv
  | .pick c a b => match cSV c, cSV a, cSV b with | some c, some a, some b => some (.pick c a b) | _, _, _ => none
  | .binOp op t x y _ => cBin P op t x y
  | .unOp op _ x => (cSV x).map (.un op)
  | .convert s d x => match cSV x, P.underlying s, P.underlying d with
    | some y, some (.int _), some (.int k) => some (.conv k y)
    | some y, some .string, some .string => some (.convs y)
    | some y, some (.slice e), some .string => (match P.underlying e, sizeT P e with | some (.int .u8), some 1 => some (.b2s y) | _, _ => none)
    | some y, some .string, some (.slice e) => (match P.underlying e, sizeT P e with | some (.int .u8), some 1 => some (.s2b y) | _, _ => none)
    | _, _, _ => none
  | .extract x i => (cSV x).map (.ext i)
  | .field t x f => match P.underlying t, cSV x with
    | some (.struct fs), some y => (match fs[f]? with
      | some fd => (match sizeT P fd.type, aggT P fd.type with | some n, some g => some (.fld fd.offset n g y) | _, _ => none)
      | none => none)
    | _, _ => none
  | .build t parts => match P.underlying t, zeroT P t with
    | some (.struct fs), some z => (match cBuildS P fs parts.toList with
      | some ps => if fs.all (fun f => (P.info? f.type).isSome) then some (.bld z ps) else none
      | none => none)
    | some (.array _ el), some z => (match sizeT P el with
      | some n => (match cBuildA n parts.toList with | some ps => some (.bld z ps) | none => none)
      | none => none)
    | _, _ => none
  | .buildSlice t len parts => match P.underlying t with
    | some (.slice el) => (match sizeT P el, zeroT P el, cElems parts.toList with
      | some n, some z, some ps => if z.length = n ∧ n ≠ 0 ∧ len * n ≤ 16777216 then some (.bsl n z len ps) else none
      | _, _, _ => none)
    | _ => none
  | .box t x => match sizeT P t, cSV x with
    | some n, some y => some (.box n y)
    | _, _ => none
  | .alloc t => (zeroT P t).map .alc
  | .load t x => match aggT P t, sizeT P t, cSV x with
    | some true, some n, some y => some (.ld n true y)
    | some false, _, some y => some (.ld 1 false y)
    | _, _, _ => none
  | .store t x v => match sizeT P t, cSV x, cSV v with
    | some n, some y, some u => some (.st n y u)
    | _, _, _ => none
  | .fieldAddr t x f => match P.underlying t, cSV x with
    | some (.struct fs), some y => (match fs[f]? with | some fd => (match sizeT P fd.type with | some n => if n ≠ 0 then some (.fad fd.offset y) else none | none => none) | none => none)
    | _, _ => none
  | .indexAddr t x i => match P.underlying t, cSV x, cSV i with
    | some (.slice el), some y, some j => (match sizeT P el with | some n => some (.iad n y j) | none => none)
    | some (.array len el), some y, some j => (match sizeT P el with | some n => some (.iada len n y j) | none => none)
    | _, _, _ => none
  | .index t x i => match P.underlying t, cSV x, cSV i with
    | some .string, some y, some j => some (.idxs y j)
    | some (.array len el), some y, some j => (match sizeT P el, aggT P el with | some n, some g => some (.idxa len n g y j) | _, _ => none)
    | _, _, _ => none
  | .makeSlice t l c => match P.underlying t, cSV l, cSV c with
    | some (.slice el), some x, some y => (match P.info? el, zeroT P el with
      | some i, some z => if i.bytes ≤ 65536 ∧ i.size ≠ 0 ∧ z.length = i.size then some (.mks i.size z x y) else none
      | _, _ => none)
    | _, _, _ => none
  | .slice t x lo hi mx => match P.underlying t, cSV x, cOpt lo, cOpt hi with
    | some .string, some y, some l, some h => (match mx with | none => some (.slcs y l h) | some _ => none)
    | some (.slice el), some y, some l, some h => (match sizeT P el with
      | some n => (match mx with
        | none => some (.slc n y l h)
        | some (.const (.int .i64 0)) => (match lo, hi with
          | none, some (.const (.int .i64 0)) => some (.slc0 y)
          | some (.const (.int .i64 0)), some (.const (.int .i64 0)) => some (.slc0 y)
          | _, _ => none)
        | some _ => none)
      | none => none)
    | _, _, _, _ => none
  | .makeFunc (.func f) first caps => if first.size = 0 then (cSVs caps.toList).map (.mkf f) else none
  | .nilCheck x => (cSV x).map .nck
  | .makeInterface t x => match P.underlying t, cSV x with
    | some (.interface _), _ => none
    | some _, some y => some (.mki y)
    | _, _ => none
  | .call c => cCall P rc c
  | .panic _ => some .pan
  | _ => none

/-- P: neither reads nor writes what others write; R: reads; A: makes a row; W: writes; G: appends. -/
inductive Cl where | P | R | A | W | G

def SOp.cl : SOp → Cl
  | .box .. | .alc .. | .mks .. => .A
  | .ld .. | .callR .. | .b2s .. => .R
  | .st .. | .callW .. | .cpy .. | .pan => .W
  | .app .. | .appz .. => .G
  | _ => .P

def Cl.clash : Cl → Cl → Bool
  | .P, _ | _, .P | .R, .R | .A, .R | .R, .A | .G, .R => false
  | _, _ => true

def SV.reads : SV → List Nat
  | .t n => [n]
  | .k _ => []
def SVo.reads : Option SV → List Nat
  | some x => x.reads
  | none => []

def SOp.reads : SOp → List Nat
  | .mv x | .nilq _ _ x | .un _ x | .conv _ x | .convs x | .ext _ x | .fld _ _ _ x | .box _ x | .ld _ _ x | .fad _ x | .slc0 x | .nck x | .mki x | .len x | .lens x | .b2s x | .s2b x => x.reads
  | .pick a b c => a.reads ++ b.reads ++ c.reads
  | .bin _ x y | .beq _ x y | .eqs _ _ x y | .st _ x y | .iad _ x y | .iada _ _ x y | .idxs x y | .idxa _ _ _ x y | .mks _ _ x y | .app _ x y | .appz _ _ x y | .cpy _ x y => x.reads ++ y.reads
  | .bld _ ps => ps.flatMap (·.2.2.reads)
  | .bsl _ _ _ ps => ps.flatMap (·.2.reads)
  | .alc _ | .pan => []
  | .slcs x l h | .slc _ x l h => x.reads ++ SVo.reads l ++ SVo.reads h
  | .mkf _ cs => cs.flatMap SV.reads
  | .callR f as | .callW f as => f.reads ++ as.flatMap SV.reads
  | .mm _ xs => xs.flatMap SV.reads

def SOper.reads (o : SOper) : List Nat := o.op.reads ++ (match o.guard with | some (t, _) => [t] | none => [])

/-- Must these two come in one order? -/
def clashes (a b : SOper) : Bool :=
  a.op.cl.clash b.op.cl ||
  (match a.dst with | some d => b.reads.contains d || b.dst == some d | none => false) ||
  (match b.dst with | some d => a.reads.contains d | none => false)

/-- What comes before each operation, by its edges (which all lead back). -/
def befores : List Oper → List (List Nat) → Option (List (List Nat))
  | [], acc => some acc
  | o :: os, acc =>
    let own := (o.after.toList.filter fun e => Region.binds .any e).map (·.on)
    if own.all (fun i => decide (i < acc.length)) then befores os (acc ++ [own ++ own.flatMap fun i => acc.getD i []]) else none

def orderOk (ops : List Oper) (sops : List SOper) : Bool :=
  match befores ops [] with
  | none => false
  | some b => (List.range sops.length).all fun j => (List.range j).all fun i =>
    match sops[i]?, sops[j]? with
    | some p, some o => !(clashes p o) || (b.getD j []).contains i
    | _, _ => true

def cGuard (ops : Array Oper) : Option (Nat × Bool) → Option (Option (Nat × Bool))
  | none => some none
  | some (j, b) => match (ops[j]?).bind (·.dst) with | some t => some (some (t, b)) | none => none

def cOper (P : Program) (rc : FuncId → Bool) (N : Nat) (ops : Array Oper) (o : Oper) : Option SOper :=
  match cOp P rc o.op, cGuard ops o.guard with
  | some op, some g => (match o.dst with
    | some d => if d < N then some ⟨some d, op, g⟩ else none
    | none => some ⟨none, op, g⟩)
  | _, _ => none

def cOpers (P : Program) (rc : FuncId → Bool) (N : Nat) (ops : Array Oper) : List Oper → Option (List SOper)
  | [] => some []
  | o :: os => match cOper P rc N ops o, cOpers P rc N ops os with | some a, some r => some (a :: r) | _, _ => none

def cCode (P : Program) (rc : FuncId → Bool) (N : Nat) : Code → Option SCode
  | .skip | .label _ => some .skip
  | .region _ ops draw => match cOpers P rc N ops ops.toList with
    | some l => if draw then (if orderOk ops.toList l then some (.reg l) else none) else some (.reg l)
    | none => none
  | .seq a b => match cCode P rc N a, cCode P rc N b with | some x, some y => some (.seq x y) | _, _ => none
  | .cond c a b => match cSV c, cCode P rc N a, cCode P rc N b with | some c, some x, some y => some (.cond c x y) | _, _, _ => none
  | .block id a => match cCode P rc N a with | some x => some (.blk id x) | none => none
  | .loop a => match cCode P rc N a with | some x => some (.loop x) | none => none
  | .scope a => cCode P rc N a
  | .exit id => some (.exit id)
  | .ret => some .ret
  | _ => none

def cRes (P : Program) : List ResultVar → Option (List SRes)
  | [] => some []
  | .tmp t :: r => match cRes P r with | some s => some (.t t :: s) | none => none
  | .cell t ty :: r => match aggT P ty, sizeT P ty, cRes P r with
    | some true, some n, some s => some (.c t n true :: s)
    | some false, some _, some s => some (.c t 1 false :: s)
    | _, _, _ => none

def compile (P : Program) (rc : FuncId → Bool) (fn : Func) : Option SFunc :=
  match fn.body with
  | none => none
  | some c => match cCode P rc fn.ntmps c, cRes P fn.results.toList with
    | some b, some r => if fn.params.size + fn.nfree ≤ fn.ntmps then some ⟨fn.params.size + fn.nfree, r, b⟩ else none
    | _, _ => none

end Go.Proofs.YtkccoijckckhmaaGreatDoor.Ev

namespace Go.Proofs.YtkccoijckckhmaaGreatDoor.Ev
open Go Go.RowKit

abbrev Cm := Nat → Nat → Option Value
abbrev Mu := Nat → Option (Nat × Nat)
def noMu : Mu := fun _ => none

def cellAt (es : List (List PV)) (i j : Nat) : Option PV := (es[i]?).bind (·[j]?)

inductive Rd (c : Cm) (μ : Mu) : Value → PV → Prop
  | un (v) : Rd c μ v .un
  | int (k n) : Rd c μ (.int k n) (.int k n)
  | bool (b) : Rd c μ (.bool b) (.bool b)
  | str (s) : Rd c μ (.string s) (.str s)
  | nilI : Rd c μ .nilIface .nilI
  | anyI (t v) : Rd c μ (.iface t v) .anyI
  | nilP : Rd c μ (.pointer none) .nilP
  | nilF : Rd c μ .nilFunc .nilF
  | zn : Rd c μ (.slice none 0 0) (.z true)
  | z (a) : Rd c μ (.slice (some a) 0 0) (.z false)
  | sl (b off cap esz es) (f : Nat → Nat → Value) (hcap : es.length ≤ cap) (hl : ∀ cs, cs ∈ es → cs.length = esz)
      (hc : ∀ i j x, cellAt es i j = some x → c b (off + i * esz + j) = some (f i j)) (hr : ∀ i j x, cellAt es i j = some x → Rd c μ (f i j) x) :
      Rd c μ (.slice (some ⟨b, off, none⟩) es.length cap) (.sl esz es)
  | ms (id esz off n b N cap) (hm : μ id = some (b, N)) (hn : n ≤ cap) (hN : (off + cap) * esz ≤ N) : Rd c μ (.slice (some ⟨b, off * esz, none⟩) n cap) (.ms id esz off n)
  | mp (id esz i j b N) (hm : μ id = some (b, N)) : Rd c μ (.pointer (some ⟨b, i * esz + j, none⟩)) (.mp id esz i j)
  | ip (b off cs) (f : Nat → Value) (hc : ∀ (j : Nat) x, cs[j]? = some x → c b (off + j) = some (f j)) (hr : ∀ (j : Nat) x, cs[j]? = some x → Rd c μ (f j) x) : Rd c μ (.pointer (some ⟨b, off, none⟩)) (.ip cs)
  | agg (vs : Array Value) (cs) (hn : vs.size = cs.length) (hr : ∀ (i : Nat) x, cs[i]? = some x → Rd c μ (vs.getD i undef) x) : Rd c μ (.agg vs) (.agg cs)
  | tup (vs : Array Value) (cs) (hn : vs.size = cs.length) (hr : ∀ (i : Nat) x, cs[i]? = some x → Rd c μ (vs.getD i undef) x) : Rd c μ (.tuple vs) (.tup cs)
  | fn (f) (vs : Array Value) (cs) (hn : vs.size = cs.length) (hr : ∀ (i : Nat) x, cs[i]? = some x → Rd c μ (vs.getD i undef) x) : Rd c μ (.func (.func f) #[] vs) (.fn f cs)

def LeC (c c' : Cm) : Prop := ∀ b o u, c b o = some u → c' b o = some u
def LeM (μ μ' : Mu) : Prop := ∀ id p, μ id = some p → μ' id = some p
theorem LeC.refl (c : Cm) : LeC c c := fun _ _ _ h => h
theorem LeM.refl (μ : Mu) : LeM μ μ := fun _ _ h => h
theorem LeC.trans {a b c : Cm} (h : LeC a b) (k : LeC b c) : LeC a c := fun _ _ _ e => k _ _ _ (h _ _ _ e)
theorem LeM.trans {a b c : Mu} (h : LeM a b) (k : LeM b c) : LeM a c := fun _ _ e => k _ _ (h _ _ e)
theorem LeM.none (μ : Mu) : LeM noMu μ := fun _ _ h => by cases h

theorem Rd.mono {c c' : Cm} {μ μ' : Mu} (hc : LeC c c') (hm : LeM μ μ') {v : Value} {p : PV} (h : Rd c μ v p) : Rd c' μ' v p := by
  induction h with
  | un v => exact .un v
  | int k n => exact .int k n
  | bool b => exact .bool b
  | str s => exact .str s
  | nilI => exact .nilI
  | anyI t v => exact .anyI t v
  | nilP => exact .nilP
  | nilF => exact .nilF
  | zn => exact .zn
  | z a => exact .z a
  | sl b off cap esz es f hcap hl hc' hr ih => exact .sl b off cap esz es f hcap hl (fun i j x e => hc _ _ _ (hc' i j x e)) ih
  | ms id esz off n b N cap h1 h2 h3 => exact .ms id esz off n b N cap (hm _ _ h1) h2 h3
  | mp id esz i j b N h1 => exact .mp id esz i j b N (hm _ _ h1)
  | ip b off cs f hc' hr ih => exact .ip b off cs f (fun j x e => hc _ _ _ (hc' j x e)) ih
  | agg vs cs hn hr ih => exact .agg vs cs hn ih
  | tup vs cs hn hr ih => exact .tup vs cs hn ih
  | fn f vs cs hn hr ih => exact .fn f vs cs hn ih

/-- A value without rows of the store reads so without them. -/
theorem Rd.pure {c : Cm} {μ : Mu} {v : Value} {p : PV} (h : Rd c μ v p) : Pure p → Rd c noMu v p := by
  induction h with
  | un v => exact fun _ => .un v
  | int k n => exact fun _ => .int k n
  | bool b => exact fun _ => .bool b
  | str s => exact fun _ => .str s
  | nilI => exact fun _ => .nilI
  | anyI t v => exact fun _ => .anyI t v
  | nilP => exact fun _ => .nilP
  | nilF => exact fun _ => .nilF
  | zn => exact fun _ => .zn
  | z a => exact fun _ => .z a
  | sl b off cap esz es f hcap hl hc' hr ih =>
    intro hp
    cases hp with
    | sl _ _ hp =>
    refine .sl b off cap esz es f hcap hl hc' fun i j x e => ih i j x e ?_
    unfold cellAt at e
    cases hi : es[i]? with
    | none => simp [hi] at e
    | some cs => simp [hi] at e; exact hp cs (List.mem_of_getElem? hi) x (List.mem_of_getElem? e)
  | ms => intro hp; cases hp
  | mp => intro hp; cases hp
  | ip b off cs f hc' hr ih => intro hp; cases hp with | ip _ hp => exact .ip b off cs f hc' fun j x e => ih j x e (hp x (List.mem_of_getElem? e))
  | agg vs cs hn hr ih => intro hp; cases hp with | agg _ hp => exact .agg vs cs hn fun j x e => ih j x e (hp x (List.mem_of_getElem? e))
  | tup vs cs hn hr ih => intro hp; cases hp with | tup _ hp => exact .tup vs cs hn fun j x e => ih j x e (hp x (List.mem_of_getElem? e))
  | fn f vs cs hn hr ih => intro hp; cases hp with | fn _ _ hp => exact .fn f vs cs hn fun j x e => ih j x e (hp x (List.mem_of_getElem? e))

section inversions
variable {c : Cm} {μ : Mu} {v : Value}
theorem rd_int {k : IntKind} {n : Int} (h : Rd c μ v (.int k n)) : v = .int k n := by cases h; rfl
theorem rd_bool {b : Bool} (h : Rd c μ v (.bool b)) : v = .bool b := by cases h; rfl
theorem rd_str {s : ByteArray} (h : Rd c μ v (.str s)) : v = .string s := by cases h; rfl
theorem rd_nilI (h : Rd c μ v .nilI) : v = .nilIface := by cases h; rfl
theorem rd_anyI (h : Rd c μ v .anyI) : ∃ t u, v = .iface t u := by cases h; exact ⟨_, _, rfl⟩
theorem rd_nilP (h : Rd c μ v .nilP) : v = .pointer none := by cases h; rfl
theorem rd_nilF (h : Rd c μ v .nilF) : v = .nilFunc := by cases h; rfl
theorem rd_zt (h : Rd c μ v (.z true)) : v = .slice none 0 0 := by cases h; rfl
theorem rd_zf (h : Rd c μ v (.z false)) : ∃ a, v = .slice (some a) 0 0 := by cases h; exact ⟨_, rfl⟩
theorem rd_z {b : Bool} (h : Rd c μ v (.z b)) : ∃ a, v = .slice a 0 0 := by cases h <;> exact ⟨_, rfl⟩
theorem rd_sl {esz : Nat} {es : List (List PV)} (h : Rd c μ v (.sl esz es)) : ∃ (b off cap : Nat) (f : Nat → Nat → Value), v = .slice (some ⟨b, off, none⟩) es.length cap ∧ es.length ≤ cap ∧ (∀ cs, cs ∈ es → cs.length = esz) ∧
    (∀ i j x, cellAt es i j = some x → c b (off + i * esz + j) = some (f i j)) ∧ (∀ i j x, cellAt es i j = some x → Rd c μ (f i j) x) := by
  cases h with | sl b off cap _ _ f h1 h2 h3 h4 => exact ⟨b, off, cap, f, rfl, h1, h2, h3, h4⟩
theorem rd_ms {id esz off n : Nat} (h : Rd c μ v (.ms id esz off n)) : ∃ b N cap, μ id = some (b, N) ∧ v = .slice (some ⟨b, off * esz, none⟩) n cap ∧ n ≤ cap ∧ (off + cap) * esz ≤ N := by
  cases h with | ms _ _ _ _ b N cap h1 h2 h3 => exact ⟨b, N, cap, h1, rfl, h2, h3⟩
theorem rd_mp {id esz i j : Nat} (h : Rd c μ v (.mp id esz i j)) : ∃ b N, μ id = some (b, N) ∧ v = .pointer (some ⟨b, i * esz + j, none⟩) := by
  cases h with | mp _ _ _ _ b N h1 => exact ⟨b, N, h1, rfl⟩
theorem rd_ip {cs : List PV} (h : Rd c μ v (.ip cs)) : ∃ (b off : Nat) (f : Nat → Value), v = .pointer (some ⟨b, off, none⟩) ∧ (∀ (j : Nat) x, cs[j]? = some x → c b (off + j) = some (f j)) ∧ (∀ (j : Nat) x, cs[j]? = some x → Rd c μ (f j) x) := by
  cases h with | ip b off _ f h1 h2 => exact ⟨b, off, f, rfl, h1, h2⟩
theorem rd_agg {cs : List PV} (h : Rd c μ v (.agg cs)) : ∃ vs : Array Value, v = .agg vs ∧ vs.size = cs.length ∧ (∀ (i : Nat) x, cs[i]? = some x → Rd c μ (vs.getD i undef) x) := by
  cases h with | agg vs _ h1 h2 => exact ⟨vs, rfl, h1, h2⟩
theorem rd_tup {cs : List PV} (h : Rd c μ v (.tup cs)) : ∃ vs : Array Value, v = .tuple vs ∧ vs.size = cs.length ∧ (∀ (i : Nat) x, cs[i]? = some x → Rd c μ (vs.getD i undef) x) := by
  cases h with | tup vs _ h1 h2 => exact ⟨vs, rfl, h1, h2⟩
theorem rd_fn {f : FuncId} {cs : List PV} (h : Rd c μ v (.fn f cs)) : ∃ vs : Array Value, v = .func (.func f) #[] vs ∧ vs.size = cs.length ∧ (∀ (i : Nat) x, cs[i]? = some x → Rd c μ (vs.getD i undef) x) := by
  cases h with | fn _ vs _ h1 h2 => exact ⟨vs, rfl, h1, h2⟩
end inversions

/-- What the program's own variables hold: the library's two errors, and its table of powers of ten. -/
structure Laid (w : World) : Prop where
  size : 5 ≤ w.heap.size
  syn : ∃ tp p el z, w.heap[0]? = some (.cells #[.iface tp p] el z)
  ran : ∃ tp p el z, w.heap[1]? = some (.cells #[.iface tp p] el z)
  pow : ∃ el z, w.heap[2]? = some (.cells ((Lib.pow10Tab).map fun z => Value.int .u64 z).toArray el z)

theorem Laid.below {B : Nat} {w w' : World} (h : Laid w) (hB : 5 ≤ B) (hb : Below B w w') : Laid w' := by
  refine ⟨Nat.le_trans h.size hb.size, ?_, ?_, ?_⟩
  · rw [hb.block _ (by omega)]; exact h.syn
  · rw [hb.block _ (by omega)]; exact h.ran
  · rw [hb.block _ (by omega)]; exact h.pow

/-- What is known of a live row of the store. -/
def TokOk (c : Cm) (μ : Mu) (k : Tok) (b N : Nat) (w : World) : Prop :=
  (∀ o, c b o = none) ∧ (∀ cs, cs ∈ k.es → cs.length = k.esz) ∧ k.es.length * k.esz ≤ N ∧
  ∃ arr el, w.heap[b]? = some (.cells arr el (0, 0)) ∧ arr.size = N ∧ ∀ i j x, cellAt k.es i j = some x → Rd c μ (arr.getD (i * k.esz + j) undef) x

structure Inv (B : Nat) (w0 : World) (ca : Cm) (c : Cm) (μ : Mu) (ρ : Store) (w : World) : Prop where
  below : Below B w0 w
  cells : ∀ b o u, c b o = some u → w.cell? ⟨b, o, none⟩ = some u
  low : ∀ id b N, μ id = some (b, N) → B ≤ b
  tok : ∀ (id : Nat) k b N, ρ[id]? = some k → μ id = some (b, N) → k.live = true → TokOk c μ k b N w
  dead : ∀ (id : Nat) k, ρ[id]? = some k → k.live = false → k.es = []
  inj : ∀ (id id' : Nat) k k' b N N', ρ[id]? = some k → ρ[id']? = some k' → k.live = true → k'.live = true → μ id = some (b, N) → μ id' = some (b, N') → id = id'
  old : ∀ b o u, b < B → c b o = some u → ca b o = some u
  base : Laid w0 ∧ 5 ≤ B
  rest : ∀ (b : Nat) (o : Obj), w0.heap[b]? = some o → o.isCells = false → w.heap[b]? = some o

theorem Inv.laid {B : Nat} {w0 : World} {ca : Cm} {c : Cm} {μ : Mu} {ρ : Store} {w : World} (h : Inv B w0 ca c μ ρ w) : Laid w := h.base.1.below h.base.2 h.below

/-- Rows that are not in the store yet have no block. -/
def Dom (μ : Mu) (ρ : Store) : Prop := ∀ id, ρ.length ≤ id → μ id = none

/-- The cells of new blocks are known, too. -/
def cAt (n : Nat) (c : Cm) (w : World) : Cm := fun b o => if b < n then c b o else w.cell? ⟨b, o, none⟩

/-- c' tells more than c of new blocks alone. -/
def FreshC (n : Nat) (c c' : Cm) : Prop := ∀ b o, b < n → c' b o = c b o

theorem cAt_fresh (n : Nat) (c : Cm) (w : World) : FreshC n c (cAt n c w) := fun b o h => by simp [cAt, h]
theorem cAt_le {w w' : World} {c : Cm} (hc : ∀ b o u, c b o = some u → w.cell? ⟨b, o, none⟩ = some u) : LeC c (cAt w.heap.size c w') := by
  intro b o u h
  have := World.block_lt_of_cell? w _ (hc b o u h)
  simp only at this
  simp [cAt, this, h]
theorem cAt_cells {w w' : World} {c : Cm} (hc : ∀ b o u, c b o = some u → w.cell? ⟨b, o, none⟩ = some u) (hb : Below w.heap.size w w') : ∀ b o u, cAt w.heap.size c w' b o = some u → w'.cell? ⟨b, o, none⟩ = some u := by
  intro b o u h
  unfold cAt at h
  split at h
  · rename_i hlt
    rw [hb.cell (p := ⟨b, o, none⟩) hlt]
    exact hc b o u h
  · exact h

/-- The invariant stands while memory grows, and more of the new blocks is known. -/
theorem Inv.grow {B : Nat} {w0 : World} {ca : Cm} {c c' : Cm} {μ : Mu} {ρ : Store} {w w' : World} (h : Inv B w0 ca c μ ρ w) (hB : B ≤ w.heap.size) (hb : Below w.heap.size w w') (hle : LeC c c') (hf : FreshC w.heap.size c c')
    (hc' : ∀ b o u, c' b o = some u → w'.cell? ⟨b, o, none⟩ = some u) : Inv B w0 ca c' μ ρ w' := by
  refine ⟨h.below.trans (hb.mono hB), hc', h.low, ?_, h.dead, h.inj, fun b o u hlt hu => h.old b o u hlt (by rw [← hf b o (by omega)]; exact hu), h.base, fun b o h1 h2 => by
    have h3 := h.rest b o h1 h2
    rw [hb.block b (by
      rcases Nat.lt_or_ge b w.heap.size with h' | h'
      · exact h'
      · simp [Array.getElem?_eq_none h'] at h3)]
    exact h3⟩
  intro id k b N hk hm hl
  obtain ⟨t1, t2, t3, arr, el, t4, t5, t6⟩ := h.tok id k b N hk hm hl
  have hlt : b < w.heap.size := by
    rcases Nat.lt_or_ge b w.heap.size with h' | h'
    · exact h'
    · simp [Array.getElem?_eq_none h'] at t4
  exact ⟨fun o => by rw [hf b o hlt]; exact t1 o, t2, t3, arr, el, by rw [hb.block b hlt]; exact t4, t5, fun i j x e => (t6 i j x e).mono hle (LeM.refl _)⟩

def EnvR (c : Cm) (μ : Mu) (a : Act) (e : Env) : Prop := ∀ t, Rd c μ (a.tmps.getD t undef) (e t)

theorem EnvR.mono {c c' : Cm} {μ μ' : Mu} {a : Act} {e : Env} (h : EnvR c μ a e) (hc : LeC c c') (hm : LeM μ μ') : EnvR c' μ' a e := fun t => (h t).mono hc hm

theorem EnvR.put {c : Cm} {μ : Mu} {a : Act} {e : Env} (h : EnvR c μ a e) {d : Option Nat} (hd : ∀ t, d = some t → t < a.tmps.size) {v : Value} {p : PV} (hv : Rd c μ v p) : EnvR c μ (a.put d v) (e.put d p) := by
  cases d with
  | none => exact h
  | some t =>
    intro u
    have ht := hd t rfl
    show Rd c μ ((a.tmps.setIfInBounds t v).getD u undef) (bif Nat.beq u t then p else e u)
    by_cases hu : u = t
    · subst hu
      have hb : Nat.beq u u = true := Nat.beq_refl u
      rw [hb, cond_true]
      simpa [ht] using hv
    · have hb : Nat.beq u t = false := by
        cases hh : Nat.beq u t with
        | false => rfl
        | true => exact absurd (Nat.eq_of_beq_eq_true hh) hu
      rw [hb, cond_false]
      have := h u
      simpa [Array.getElem?_setIfInBounds_ne (Ne.symm hu)] using this

theorem kv1_rd {c : Cm} {μ : Mu} {v : Value} {p : PV} (h : kv1 v = some p) : Rd c μ v p := by
  unfold kv1 at h
  split at h <;> first | (cases h; constructor) | cases h

theorem kvs_len : ∀ {vs : List Value} {ps : List PV}, kvs vs = some ps → vs.length = ps.length
  | [], ps, h => by simp [kvs] at h; subst h; rfl
  | v :: vs, ps, h => by
    simp only [kvs] at h
    split at h
    · rename_i x xs h1 h2; cases h; simp [kvs_len h2]
    · cases h

theorem kvs_rd {c : Cm} {μ : Mu} : ∀ {vs : List Value} {ps : List PV}, kvs vs = some ps → ∀ (i : Nat) x, ps[i]? = some x → Rd c μ (vs.getD i undef) x
  | [], ps, h, i, x, e => by simp [kvs] at h; subst h; simp at e
  | v :: vs, ps, h, i, x, e => by
    simp only [kvs] at h
    split at h
    · rename_i y ys h1 h2
      cases h
      cases i with
      | zero => simp at e; subst e; simpa using kv1_rd h1
      | succ i => simp at e; simpa using kvs_rd h2 i x e
    · cases h

theorem kv_rd {c : Cm} {μ : Mu} {v : Value} {p : PV} (h : kv v = some p) : Rd c μ v p := by
  unfold kv at h
  split at h
  · rename_i cs
    split at h
    · rename_i xs hx
      cases h
      refine .agg cs xs (by rw [← kvs_len hx]; simp) fun i x e => ?_
      have := kvs_rd (c := c) (μ := μ) hx i x e
      simpa using this
    · cases h
  · exact kv1_rd h

theorem cSV_rd {c : Cm} {μ : Mu} {a : Act} {e : Env} (he : EnvR c μ a e) {x : Operand} {sx : SV} (h : cSV x = some sx) : Rd c μ (a.eval x) (sx.ev e) := by
  cases x with
  | tmp t => simp [cSV] at h; subst h; exact he t
  | const v =>
    simp only [cSV] at h
    split at h
    · rename_i p hp; cases h; exact kv_rd hp
    · cases h
  | global g => cases h
  | func f => cases h; exact .fn f #[] [] rfl (fun i x e => by simp at e)

theorem cSVs_len : ∀ {xs : List Operand} {ys : List SV}, cSVs xs = some ys → xs.length = ys.length
  | [], ys, h => by cases h; rfl
  | x :: xs, ys, h => by
    simp only [cSVs] at h
    split at h
    · rename_i y zs h1 h2; cases h; simp [cSVs_len h2]
    · cases h

/-- A list of values reads as a list of plain values. -/
def RdL (c : Cm) (μ : Mu) : List Value → List PV → Prop
  | [], [] => True
  | v :: vs, p :: ps => Rd c μ v p ∧ RdL c μ vs ps
  | _, _ => False

theorem RdL.mono {c c' : Cm} {μ μ' : Mu} (hc : LeC c c') (hm : LeM μ μ') : ∀ {vs : List Value} {ps : List PV}, RdL c μ vs ps → RdL c' μ' vs ps
  | [], [], _ => trivial
  | _ :: _, _ :: _, h => ⟨h.1.mono hc hm, RdL.mono hc hm h.2⟩
  | [], _ :: _, h => h.elim
  | _ :: _, [], h => h.elim

theorem RdL.length {c : Cm} {μ : Mu} : ∀ {vs : List Value} {ps : List PV}, RdL c μ vs ps → vs.length = ps.length
  | [], [], _ => rfl
  | _ :: _, _ :: _, h => by simp [RdL.length h.2]
  | [], _ :: _, h => h.elim
  | _ :: _, [], h => h.elim

theorem RdL.append {c : Cm} {μ : Mu} : ∀ {vs : List Value} {ps : List PV} {us : List Value} {qs : List PV}, RdL c μ vs ps → RdL c μ us qs → RdL c μ (vs ++ us) (ps ++ qs)
  | [], [], _, _, _, k => k
  | _ :: _, _ :: _, _, _, h, k => ⟨h.1, RdL.append h.2 k⟩
  | [], _ :: _, _, _, h, _ => h.elim
  | _ :: _, [], _, _, h, _ => h.elim

theorem RdL.get {c : Cm} {μ : Mu} : ∀ {vs : List Value} {ps : List PV}, RdL c μ vs ps → ∀ (i : Nat) x, ps[i]? = some x → Rd c μ (vs.getD i undef) x
  | [], [], _, i, x, e => by simp at e
  | v :: vs, p :: ps, h, 0, x, e => by simp at e; subst e; simpa using h.1
  | v :: vs, p :: ps, h, i + 1, x, e => by simp at e; simpa using RdL.get h.2 i x e
  | [], _ :: _, h, _, _, _ => h.elim
  | _ :: _, [], h, _, _, _ => h.elim

theorem RdL.of_get {c : Cm} {μ : Mu} : ∀ {vs : List Value} {ps : List PV}, vs.length = ps.length → (∀ (i : Nat) x, ps[i]? = some x → Rd c μ (vs.getD i undef) x) → RdL c μ vs ps
  | [], [], _, _ => trivial
  | v :: vs, p :: ps, hl, h => ⟨by simpa using h 0 p rfl, RdL.of_get (by simpa using hl) fun i x e => by simpa using h (i + 1) x (by simpa using e)⟩
  | [], _ :: _, hl, _ => by simp at hl
  | _ :: _, [], hl, _ => by simp at hl

theorem cSVs_rd {c : Cm} {μ : Mu} {a : Act} {e : Env} (he : EnvR c μ a e) : ∀ {xs : List Operand} {ys : List SV}, cSVs xs = some ys → RdL c μ (xs.map a.eval) (ys.map (SV.ev e))
  | [], ys, h => by cases h; trivial
  | x :: xs, ys, h => by
    simp only [cSVs] at h
    split at h
    · rename_i y zs h1 h2; cases h; exact ⟨cSV_rd he h1, cSVs_rd he h2⟩
    · cases h

theorem nCells_rd {c : Cm} {μ : Mu} {v : Value} {p : PV} (h : Rd c μ v p) {n : Nat} {cs : List PV} (hn : nCells n p = some cs) : v.cells.size = n ∧ cs.length = n ∧ RdL c μ v.cells.toList cs := by
  cases p with
  | agg ps =>
    simp only [nCells] at hn
    split at hn
    · rename_i hl
      cases hn
      obtain ⟨vs, rfl, h1, h2⟩ := rd_agg h
      refine ⟨by simp [Value.cells, h1, hl], hl, RdL.of_get (by simp [Value.cells, h1]) fun i x e => ?_⟩
      simpa [Value.cells] using h2 i x e
    · cases hn
  | tup _ => cases hn
  | un => cases hn
  | _ =>
    simp only [nCells] at hn
    split at hn
    · rename_i hl
      cases hn
      cases h <;> exact ⟨by simp [Value.cells, hl], by simp [hl], ⟨by constructor <;> assumption, trivial⟩⟩
    · cases hn

end Go.Proofs.YtkccoijckckhmaaGreatDoor.Ev

namespace Go.Proofs.YtkccoijckckhmaaGreatDoor.Ev
open Go Go.RowKit

/-- Whatever follows the operation, it is enough to show it of the value that R tells. -/
def OpRuns (P : Program) (o : Oper) (a : Act) (w : World) (R : Value → World → Prop) : Prop :=
  ∀ (next : Act → World → Prop) (Q : Exit → Act → World → Prop), (∀ v w', R v w' → next (a.put o.dst v) w') → o.wp P a w next Q

theorem OpRuns.of_value {P : Program} {o : Oper} {a : Act} {w w' : World} {R : Value → World → Prop} {v : Value} (h : (execOp a.eval o).run P w = .ok (.value v) w') (hR : R v w') : OpRuns P o a w R := by
  intro next Q hn
  unfold Oper.wp
  rw [h]
  exact hn _ _ hR

theorem OpRuns.of_skip {P : Program} {o : Oper} {a : Act} {w w' : World} {R : Value → World → Prop} (h : (execOp a.eval o).run P w = .ok .skip w') (hR : R undef w') : OpRuns P o a w R := by
  intro next Q hn
  unfold Oper.wp
  rw [h]
  exact hn _ _ hR

theorem OpRuns.mono {P : Program} {o : Oper} {a : Act} {w : World} {R R' : Value → World → Prop} (h : OpRuns P o a w R) (hr : ∀ v w', R v w' → R' v w') : OpRuns P o a w R' :=
  fun next Q hn => h next Q fun v w' k => hn v w' (hr v w' k)

def Enterable (P : Program) (f : FuncId) : Prop := ∃ fn, P.funcs[f]? = some fn ∧ (fn.name == "runtime.NumGoroutine") = false ∧ fn.body.isNone = false

/-- A function's contract: on arguments of which g tells a value it returns what reads as that value, and leaves all that was there. -/
structure Contract (P : Program) (f : FuncId) (g : List PV → Option PV) : Prop where
  enter : Enterable P f
  pure : ∀ args r, g args = some r → ∀ p, p ∈ args → Pure p
  calls : ∀ args r, g args = some r → ∀ (w : World) (c : Cm) (vs : List Value), (∀ b o u, c b o = some u → w.cell? ⟨b, o, none⟩ = some u) → Laid w → RdL c noMu vs args →
    Calls P f vs.toArray w (fun e w' => ∃ v, e = .returned v ∧ Rd (cAt w.heap.size c w') noMu v r ∧ Below w.heap.size w w')

/-- What a quiet operation leaves: a value that reads as p; memory that has grown. -/
def Quiet (c : Cm) (μ : Mu) (w : World) (p : PV) (v : Value) (w' : World) : Prop :=
  ∃ c', LeC c c' ∧ FreshC w.heap.size c c' ∧ Below w.heap.size w w' ∧ (∀ b o u, c' b o = some u → w'.cell? ⟨b, o, none⟩ = some u) ∧ Rd c' μ v p

theorem Quiet.same {c : Cm} {μ : Mu} {w : World} {p : PV} {v : Value} (hc : ∀ b o u, c b o = some u → w.cell? ⟨b, o, none⟩ = some u) (h : Rd c μ v p) : Quiet c μ w p v w :=
  ⟨c, LeC.refl c, fun _ _ _ => rfl, Below.refl _ _, hc, h⟩

section
variable {P : Program} {T : Tab} {call : FuncId → List PV → Store → Option (PV × Store)} {rc : FuncId → Bool} {c : Cm} {μ : Mu} {a : Act} {e : Env} {w : World} {o : Oper}

theorem run_execOp_move {x : Operand} (h : o.op = .move x ∨ o.op = .assign x) : (execOp a.eval o).run P w = .ok (.value (a.eval x)) w := by
  rcases h with h | h <;> simp [execOp, h]

theorem run_pick {x y z : Operand} {t : Bool} (h : o.op = .pick x y z) (ht : a.eval x = .bool t) : (execOp a.eval o).run P w = .ok (.value (bif t then a.eval y else a.eval z)) w := by
  cases t <;> simp [execOp, h, asBool, ht]

def toV : PV → Value
  | .int k n => .int k n
  | .bool b => .bool b
  | .str s => .string s
  | _ => undef
def isSc : PV → Bool
  | .int .. | .bool _ | .str _ => true
  | _ => false
theorem toV_rd {p : PV} (h : isSc p = true) : Rd c μ (toV p) p := by
  cases p <;> first | (constructor; done) | cases h

theorem evBinInt_run {op : BinOp} {k : IntKind} {x y : Int} {p : PV} (h : evBinInt op k x y = some p) (hs1 : op ≠ .shl) (hs2 : op ≠ .shr) (t : TypeId) :
    (binOp op t (.int k x) (.int k y)).run P w = .ok (toV p) w ∧ isSc p = true := by
  cases op <;> simp only [evBinInt] at h <;> first
    | (cases h; exact ⟨by simp [binOp, Op.intArith, Op.intBits, Op.intCmp, toV], rfl⟩)
    | (split at h
       · cases h
       · rename_i hz; cases h; exact ⟨by simp [binOp, Op.intDiv, hz, toV], rfl⟩)
    | exact absurd rfl hs1
    | exact absurd rfl hs2
    | cases h

theorem evBinStr_run {op : BinOp} {x y : ByteArray} {p : PV} (h : evBinStr op x y = some p) (t : TypeId) :
    (binOp op t (.string x) (.string y)).run P w = .ok (toV p) w ∧ isSc p = true := by
  cases op <;> simp only [evBinStr] at h <;> first
    | (cases h; exact ⟨by simp [binOp, Op.stringOp, toV, ByteArray.toList_eq], rfl⟩)
    | (split at h
       · rename_i hz; cases h; exact ⟨by
           have : ¬ (((x.size + y.size : Nat) : Int) > IntKind.i64.max) := by
             have : IntKind.i64.max = 9223372036854775807 := by decide
             rw [this]; omega
           simp only [binOp, Op.stringOp, this, if_false, Sem.run_pure, toV], rfl⟩
       · cases h)
    | cases h

theorem eqGuard_plain {op : BinOp} {t : TypeId} {x y : Operand} {u v : Value} (h : ∀ n, u ≠ .agg n) (h' : u ≠ .nilIface ∨ v ≠ .nilIface) : (eqGuard op t x y u v).run P w = .ok () w := by
  unfold eqGuard
  cases op <;> first | rfl | (cases u <;> cases v <;> first | rfl | exact absurd rfl (h _) | (rcases h' with h' | h' <;> exact absurd rfl h'))

theorem evBin_run {op : BinOp} {t : TypeId} {x y : Operand} {u v : Value} {p q r : PV} (hu : Rd c μ u p) (hv : Rd c μ v q) (h : evBin op p q = some r) :
    (do eqGuard op t x y u v; binOp op t u v : Sem Value).run P w = .ok (toV r) w ∧ isSc r = true := by
  unfold evBin at h
  split at h
  · rename_i k a' k' b'
    rw [rd_int hu, rd_int hv]
    have hg : (eqGuard op t x y (.int k a') (.int k' b')).run P w = .ok () w := eqGuard_plain (fun _ h => by cases h) (.inl (fun h => by cases h))
    simp only [Sem.run_bind, hg, Result.andThen_ok]
    split at h
    · split at h
      · cases h
      · rename_i hn; cases h; exact ⟨by simp [binOp, Op.shift, hn, toV], rfl⟩
    · split at h
      · cases h
      · rename_i hn; cases h; exact ⟨by simp [binOp, Op.shift, hn, toV], rfl⟩
    · rename_i h1 h2
      split at h
      · rename_i hk; subst hk
        exact evBinInt_run h h1 h2 t
      · cases h
  · rename_i s s'
    rw [rd_str hu, rd_str hv]
    have hg : (eqGuard op t x y (.string s) (.string s')).run P w = .ok () w := eqGuard_plain (fun _ h => by cases h) (.inl (fun h => by cases h))
    simp only [Sem.run_bind, hg, Result.andThen_ok]
    exact evBinStr_run h t
  · cases h

theorem eqIn_bool (d : Nat) {t : TypeId} {a' b' : Bool} (hd : P.underlying t = some .bool) : (Op.equalIn (d + 1) t (.bool a') (.bool b')).run P w = .ok (a' == b') w := by
  simp [Op.equalIn, underlying, hd]

theorem beq_run {neq : Bool} {t : TypeId} {x y : Operand} {a' b' : Bool} (hd : P.underlying t = some .bool) :
    (do eqGuard (bif neq then .neq else .eql) t x y (.bool a') (.bool b'); binOp (bif neq then .neq else .eql) t (.bool a') (.bool b') : Sem Value).run P w = .ok (.bool (bif neq then !(a' == b') else a' == b')) w := by
  have hg : (eqGuard (bif neq then .neq else .eql) t x y (.bool a') (.bool b')).run P w = .ok () w := eqGuard_plain (fun _ h => by cases h) (.inl (fun h => by cases h))
  simp only [Sem.run_bind, hg, Result.andThen_ok]
  have he : (Op.equal t (.bool a') (.bool b')).run P w = .ok (a' == b') w := eqIn_bool 9999 hd
  cases neq
  · show ((do pure (Value.bool (← Op.equal t (.bool a') (.bool b')))) : Sem Value).run P w = _
    simp only [Sem.run_bind, he, Result.andThen_ok]; rfl
  · show ((do pure (Value.bool (!(← Op.equal t (.bool a') (.bool b'))))) : Sem Value).run P w = _
    simp only [Sem.run_bind, he, Result.andThen_ok]; rfl


theorem eqFields_str {xs ys : Array Value} (d : Nat) : ∀ (fs : List Field) (n : Nat) (ps qs : List PV) (b : Bool), strFields P fs n = true → eqCells ps qs = some b → fs.length = ps.length →
    (∀ (i : Nat) x, ps[i]? = some x → Rd c μ (xs.getD (n + i) undef) x) → (∀ (i : Nat) x, qs[i]? = some x → Rd c μ (ys.getD (n + i) undef) x) →
    n + ps.length ≤ xs.size → n + ps.length ≤ ys.size → (Op.eqFields (d + 1) xs ys fs).run P w = .ok b w
  | [], n, ps, qs, b, _, he, hl, _, _, _, _ => by
    have : ps = [] := by cases ps with | nil => rfl | cons _ _ => simp at hl
    subst this
    cases qs with
    | nil => cases he; rfl
    | cons _ _ => cases he
  | f :: fs, n, ps, qs, b, hf, he, hl, hx, hy, sx, sy => by
    cases ps with
    | nil => simp at hl
    | cons p ps =>
    simp only [strFields, Bool.and_eq_true, bne_iff_ne, ne_eq, beq_iff_eq] at hf
    obtain ⟨⟨⟨hn, ho⟩, ht⟩, hr⟩ := hf
    have ht' : P.underlying f.type = some .string := by
      split at ht
      · assumption
      · cases ht
    have hlx : n < xs.size := by simp at sx; omega
    have hly : n < ys.size := by simp at sy; omega
    have isA : (isAgg f.type).run P w = .ok false w := by simp [isAgg, underlying, ht']
    have px : (part f.type xs f.offset).run P w = .ok (xs.getD n undef) w := by
      simp [part, isA, ho, hlx]
    have py : (part f.type ys f.offset).run P w = .ok (ys.getD n undef) w := by
      simp [part, isA, ho, hly]
    cases p with
    | str s =>
      cases qs with
      | nil => cases he
      | cons q qs =>
      cases q with
      | str s' =>
        have e1 := rd_str (hx 0 _ rfl)
        have e2 := rd_str (hy 0 _ rfl)
        rw [Nat.add_zero] at e1 e2
        have hq : (Op.equalIn (d + 1) f.type (.string s) (.string s')).run P w = .ok (s == s') w := by
          rw [run_equalIn_string w d f.type s s' ht', ← beq_toListBytes]
        simp only [Op.eqFields, ne_eq, hn, not_false_eq_true, if_true, Sem.run_bind, px, py, Result.andThen_ok, e1, e2, hq, Sem.run_ite]
        simp only [eqCells] at he
        split at he
        · rename_i hss
          rw [hss]
          simp only [Bool.not_true, Bool.false_eq_true, if_false]
          refine eqFields_str d fs (n + 1) ps qs b hr he (by simpa using hl) ?_ ?_ (by simp at sx; omega) (by simp at sy; omega)
          · intro i x e'
            have := hx (i + 1) x (by simpa using e')
            rwa [show n + (i + 1) = n + 1 + i from by omega] at this
          · intro i x e'
            have := hy (i + 1) x (by simpa using e')
            rwa [show n + (i + 1) = n + 1 + i from by omega] at this
        · rename_i hss
          split at he
          · cases he
            have : (s == s') = false := by simpa using hss
            rw [this]
            rfl
          · cases he
      | _ => cases he
    | _ => cases he

end
end Go.Proofs.YtkccoijckckhmaaGreatDoor.Ev

namespace Go.Proofs.YtkccoijckckhmaaGreatDoor.Ev
open Go Go.RowKit

section
variable {P : Program} {T : Tab} {call : FuncId → List PV → Store → Option (PV × Store)} {rc : FuncId → Bool} {c : Cm} {μ : Mu} {a : Act} {e : Env} {w : World} {o : Oper}

theorem isAgg_run {t : TypeId} {b : Bool} (h : aggT P t = some b) : (isAgg t).run P w = .ok b w := by
  unfold aggT at h
  split at h
  · rename_i hd; cases h; simp [isAgg, underlying, hd]
  · rename_i hd; cases h; simp [isAgg, underlying, hd]
  · rename_i d h1 h2 hd
    cases h
    simp only [isAgg, Sem.run_bind, run_underlying hd, Result.andThen_ok]
    rfl
  · cases h

theorem sizeT_run {t : TypeId} {n : Nat} (h : sizeT P t = some n) : (sizeOf t).run P w = .ok n w := by
  unfold sizeT at h
  cases hi : P.info? t with
  | none => simp [hi] at h
  | some i => simp [hi] at h; simp [sizeOf, typeInfo, hi, h]

theorem zeroT_run {t : TypeId} {z : List PV} (h : zeroT P t = some z) : ∃ v, (zeroValue t).run P w = .ok v w ∧ v.cells.size = z.length ∧ RdL c μ v.cells.toList z := by
  unfold zeroT at h
  split at h
  · rename_i i hi
    split at h
    · rename_i v hv
      refine ⟨v, by simp [zeroValue, typeInfo, hi, hv], ?_, ?_⟩
      · have := kvs_len h; simpa using this
      · refine RdL.of_get (kvs_len h) fun i x e => ?_
        exact kvs_rd h i x e
    · cases h
  · cases h

/-- The cells from an address on read as these. -/
def CellsAt (c : Cm) (μ : Mu) (w : World) (b off : Nat) (cs : List PV) : Prop := ∀ (j : Nat) x, cs[j]? = some x → ∃ u, w.cell? ⟨b, off + j, none⟩ = some u ∧ Rd c μ u x

theorem CellsAt.drop {b off : Nat} {cs : List PV} (h : CellsAt c μ w b off cs) (k : Nat) : CellsAt c μ w b (off + k) (cs.drop k) := by
  intro j x e
  rw [List.getElem?_drop] at e
  obtain ⟨u, h1, h2⟩ := h (k + j) x e
  exact ⟨u, by rw [Nat.add_assoc]; exact h1, h2⟩

theorem CellsAt.of_ip {cs : List PV} {v : Value} (hc : ∀ b o u, c b o = some u → w.cell? ⟨b, o, none⟩ = some u) (h : Rd c μ v (.ip cs)) : ∃ b off, v = .pointer (some ⟨b, off, none⟩) ∧ CellsAt c μ w b off cs := by
  obtain ⟨b, off, f, rfl, h1, h2⟩ := rd_ip h
  exact ⟨b, off, rfl, fun j x e => ⟨f j, hc _ _ _ (h1 j x e), h2 j x e⟩⟩

theorem cell_of_heap {b o N : Nat} {arr : Array Value} {el : TypeId} {fz : Nat × Nat} (h : w.heap[b]? = some (.cells arr el fz)) (hN : arr.size = N) (ho : o < N) : w.cell? ⟨b, o, none⟩ = some (arr.getD o undef) := by
  unfold World.cell?
  subst hN
  simp [h, ho]

theorem CellsAt.of_tok {B : Nat} {w0 : World} {ca : Cm} {ρ : Store} (hI : Inv B w0 ca c μ ρ w) {id b N : Nat} {k : Tok} (hk : ρ[id]? = some k) (hm : μ id = some (b, N)) {i : Nat} {cs : List PV} (hi : k.es[i]? = some cs) : CellsAt c μ w b (i * k.esz) cs := by
  have hl : k.live = true := by
    cases h : k.live with
    | true => rfl
    | false => rw [hI.dead id k hk h] at hi; simp at hi
  obtain ⟨t1, t2, t3, arr, el, t4, t5, t6⟩ := hI.tok id k b N hk hm hl
  intro j x e
  have hlen := t2 cs (List.mem_of_getElem? hi)
  have hj : j < k.esz := by
    rcases Nat.lt_or_ge j cs.length with h' | h'
    · omega
    · simp [List.getElem?_eq_none h'] at e
  have hi' : i < k.es.length := by
    rcases Nat.lt_or_ge i k.es.length with h' | h'
    · exact h'
    · simp [List.getElem?_eq_none h'] at hi
  have hlt : i * k.esz + j < N := by
    have : (i + 1) * k.esz ≤ k.es.length * k.esz := Nat.mul_le_mul_right _ hi'
    rw [Nat.succ_mul] at this
    omega
  exact ⟨_, cell_of_heap t4 t5 hlt, t6 i j x (by simp [cellAt, hi, e])⟩

theorem addr_add (b off k : Nat) : (⟨b, off, none⟩ : Addr).add k = ⟨b, off + k, none⟩ := by
  unfold Addr.add
  split
  · rename_i h; subst h; rfl
  · rfl

theorem loadCellsFrom_run {b off : Nat} {f : Nat → Value} : ∀ (n i : Nat) (acc : Array Value), (∀ j, j < n → w.cell? ⟨b, off + (i + j), none⟩ = some (f (i + j))) →
    (loadCellsFrom ⟨b, off, none⟩ i n acc).run P w = .ok (acc ++ ((List.range n).map fun j => f (i + j)).toArray) w
  | 0, i, acc, _ => by simp [loadCellsFrom]
  | n + 1, i, acc, h => by
    have h0 := h 0 (by omega)
    simp only [Nat.add_zero] at h0
    have ih := loadCellsFrom_run (b := b) (off := off) (f := f) n (i + 1) (acc.push (f i)) (fun j hj => by have := h (j + 1) (by omega); rw [show i + 1 + j = i + (j + 1) from by omega]; exact this)
    simp only [loadCellsFrom, Sem.run_bind, run_load, addr_add, h0, Result.andThen_ok]
    rw [ih]
    congr 1
    rw [List.range_succ_eq_map]
    simp [Function.comp_def, Nat.add_assoc, Nat.add_comm 1]

theorem loadVar_run {t : TypeId} {g : Bool} {n b off : Nat} {cs : List PV} {p : PV} (ha : aggT P t = some g) (hs : g = true → sizeT P t = some n) (hn : g = false → True) (h : CellsAt c μ w b off cs) (hj : joinCells n g cs = some p) :
    ∃ v, (loadVar t ⟨b, off, none⟩).run P w = .ok v w ∧ Rd c μ v p := by
  cases g with
  | false =>
    simp only [joinCells] at hj
    obtain ⟨u, h1, h2⟩ := h 0 p hj
    refine ⟨u, ?_, h2⟩
    simp only [loadVar, Sem.run_bind, isAgg_run ha, Result.andThen_ok, Bool.false_eq_true, if_false]
    rw [Nat.add_zero] at h1
    simp [h1]
  | true =>
    simp only [joinCells] at hj
    split at hj
    · rename_i hle
      cases hj
      let f : Nat → Value := fun j => ((w.cell? ⟨b, off + j, none⟩).getD undef)
      have hf : ∀ j, j < n → w.cell? ⟨b, off + j, none⟩ = some (f j) := by
        intro j hj
        obtain ⟨u, h1, _⟩ := h j cs[j] (by simp)
        show _ = some ((w.cell? ⟨b, off + j, none⟩).getD undef)
        rw [h1]; rfl
      refine ⟨.agg (((List.range n).map fun j => f j).toArray), ?_, ?_⟩
      · have := loadCellsFrom_run (P := P) (w := w) (b := b) (off := off) (f := f) n 0 #[] (fun j hj => by simpa using hf j hj)
        simp only [loadVar, Sem.run_bind, isAgg_run ha, Result.andThen_ok, if_true, sizeT_run (hs rfl), loadCells, this]
        simp
      · refine .agg _ _ (by simp; omega) fun i x e => ?_
        rw [List.getElem?_take] at e
        split at e
        · rename_i hi
          obtain ⟨u, h1, h2⟩ := h i x e
          have : f i = u := by show (w.cell? ⟨b, off + i, none⟩).getD undef = u; rw [h1]; rfl
          simp [hi, this, h2]
        · cases e
    · cases hj

end
end Go.Proofs.YtkccoijckckhmaaGreatDoor.Ev

namespace Go.Proofs.YtkccoijckckhmaaGreatDoor.Ev
open Go Go.RowKit

section
variable {P : Program} {T : Tab} {call : FuncId → List PV → Store → Option (PV × Store)} {rc : FuncId → Bool} {c : Cm} {μ : Mu} {a : Act} {e : Env} {w : World} {o : Oper} {ρ : Store} {B : Nat} {w0 : World} {ca : Cm}

theorem q_of {p : PV} {v : Value} (hI : Inv B w0 ca c μ ρ w) (hr : (execOp a.eval o).run P w = .ok (.value v) w) (h : Rd c μ v p) : OpRuns P o a w (Quiet c μ w p) :=
  OpRuns.of_value hr (Quiet.same hI.cells h)

theorem q_mv (hI : Inv B w0 ca c μ ρ w) (he : EnvR c μ a e) {x : Operand} {sx : SV} (ho : o.op = .move x ∨ o.op = .assign x) (hx : cSV x = some sx) : OpRuns P o a w (Quiet c μ w (sx.ev e)) :=
  q_of hI (run_execOp_move ho) (cSV_rd he hx)

theorem q_pick (hI : Inv B w0 ca c μ ρ w) (he : EnvR c μ a e) {x y z : Operand} {sx sy sz : SV} (ho : o.op = .pick x y z) (hx : cSV x = some sx) (hy : cSV y = some sy) (hz : cSV z = some sz) {t : Bool} (ht : sx.ev e = .bool t) :
    OpRuns P o a w (Quiet c μ w (bif t then sy.ev e else sz.ev e)) := by
  have h1 := cSV_rd he hx
  rw [ht] at h1
  refine q_of hI (run_pick ho (rd_bool h1)) ?_
  cases t
  · exact cSV_rd he hz
  · exact cSV_rd he hy

theorem q_bin (hI : Inv B w0 ca c μ ρ w) (he : EnvR c μ a e) {op : BinOp} {t u : TypeId} {x y : Operand} {sx sy : SV} (ho : o.op = .binOp op t x y u) (hx : cSV x = some sx) (hy : cSV y = some sy) {p : PV} (hp : evBin op (sx.ev e) (sy.ev e) = some p) :
    OpRuns P o a w (Quiet c μ w p) := by
  obtain ⟨h1, h2⟩ := evBin_run (P := P) (w := w) (t := t) (x := x) (y := y) (cSV_rd he hx) (cSV_rd he hy) hp
  refine q_of (v := toV p) hI ?_ (toV_rd h2)
  simp only [execOp, ho, Sem.run_bind] at h1 ⊢
  rw [h1]; rfl

theorem q_beq (hI : Inv B w0 ca c μ ρ w) (he : EnvR c μ a e) {neq : Bool} {t u : TypeId} {x y : Operand} {sx sy : SV} (ho : o.op = .binOp (bif neq then .neq else .eql) t x y u) (hx : cSV x = some sx) (hy : cSV y = some sy) (hd : P.underlying t = some .bool)
    {b b' : Bool} (h1 : sx.ev e = .bool b) (h2 : sy.ev e = .bool b') : OpRuns P o a w (Quiet c μ w (.bool (bif neq then !(b == b') else b == b'))) := by
  have e1 := cSV_rd he hx
  have e2 := cSV_rd he hy
  rw [h1] at e1
  rw [h2] at e2
  have h := beq_run (P := P) (w := w) (neq := neq) (t := t) (x := x) (y := y) (a' := b) (b' := b') hd
  refine q_of (v := .bool (bif neq then !(b == b') else b == b')) hI ?_ (.bool _)
  simp only [execOp, ho, Sem.run_bind, rd_bool e1, rd_bool e2] at h ⊢
  rw [h]; rfl

theorem q_eqs (hI : Inv B w0 ca c μ ρ w) (he : EnvR c μ a e) {neq : Bool} {t u : TypeId} {x y : Operand} {sx sy : SV} {fs : Array Field} (ho : o.op = .binOp (bif neq then .neq else .eql) t x y u) (hx : cSV x = some sx) (hy : cSV y = some sy)
    (hd : P.underlying t = some (.struct fs)) (hf : strFields P fs.toList 0 = true) (hg : P.eqGuardType P.depth t = false) (hs : P.stoodInHeld t = false)
    {ps qs : List PV} {b : Bool} (h1 : sx.ev e = .agg ps) (h2 : sy.ev e = .agg qs) (hl : ps.length = fs.size) (hb : eqCells ps qs = some b) : OpRuns P o a w (Quiet c μ w (.bool (bif neq then !b else b))) := by
  have e1 := cSV_rd he hx
  have e2 := cSV_rd he hy
  rw [h1] at e1
  rw [h2] at e2
  obtain ⟨xs, ex, nx, rx⟩ := rd_agg e1
  obtain ⟨ys, ey, ny, ry⟩ := rd_agg e2
  have hlen : ∀ (ps qs : List PV) b, eqCells ps qs = some b → ps.length = qs.length := by
    intro ps
    induction ps with
    | nil => intro qs b h; cases qs with | nil => rfl | cons _ _ => cases h
    | cons p ps ih =>
      intro qs b h
      cases p with
      | str s =>
        cases qs with
        | nil => cases h
        | cons q qs =>
          cases q with
          | str s' =>
            simp only [eqCells] at h
            split at h
            · simp [ih _ _ h]
            · split at h
              · rename_i hh; simp [hh]
              · cases h
          | _ => cases h
      | _ => cases h
  have hfo : P.fieldsOf t = fs := by simp [Program.fieldsOf, hd]
  have hq : (Op.equalIn 10000 t (.agg xs) (.agg ys)).run P w = .ok b w := by
    have := run_equalIn_struct (P := P) w 9999 t xs ys (by rw [hfo]; exact hd) hs
    rw [show (10000 : Nat) = 9999 + 1 from rfl, this, hfo]
    exact eqFields_str 9998 fs.toList 0 ps qs b hf hb (by simp [hl]) (fun i x e => by simpa using rx i x e) (fun i x e => by simpa using ry i x e) (by omega) (by have := hlen _ _ _ hb; omega)
  have hgd : (eqGuard (bif neq then .neq else .eql) t x y (.agg xs) (.agg ys)).run P w = .ok () w := run_eqGuard_agg w _ t x y xs ys hg
  refine q_of (v := .bool (bif neq then !b else b)) hI ?_ (.bool _)
  have h : (do eqGuard (bif neq then .neq else .eql) t x y (.agg xs) (.agg ys); binOp (bif neq then .neq else .eql) t (.agg xs) (.agg ys) : Sem Value).run P w = .ok (.bool (bif neq then !b else b)) w := by
    simp only [Sem.run_bind, hgd, Result.andThen_ok]
    cases neq
    · show ((do pure (Value.bool (← Op.equalIn 10000 t (.agg xs) (.agg ys)))) : Sem Value).run P w = _
      simp only [Sem.run_bind, hq, Result.andThen_ok]; rfl
    · show ((do pure (Value.bool (!(← Op.equalIn 10000 t (.agg xs) (.agg ys))))) : Sem Value).run P w = _
      simp only [Sem.run_bind, hq, Result.andThen_ok]; rfl
  simp only [execOp, ho, Sem.run_bind, ex, ey] at h ⊢
  rw [h]; rfl

set_option maxHeartbeats 2000000 in
/-- '==' with nil. -/
theorem nil_equal {t : TypeId} {kd : Nat} (hd : typeKind (P.underlying t) = some kd) {u : Value} {y : Operand} {p : PV} {b : Bool} (hu : Rd c μ u p) (hp : evNilq kd p = some b) (hk : nilKind y = some kd) (n : Nat) :
    (Op.equalIn (n + 1) t u (a.eval y)).run P w = .ok b w ∧ (Op.equalIn (n + 1) t (a.eval y) u).run P w = .ok b w := by
  cases hx : P.underlying t with
  | none => rw [hx] at hd; cases hd
  | some d =>
  rw [hx] at hd
  unfold nilKind at hk
  split at hk
  · cases hk
    cases d <;> simp only [typeKind] at hd <;> first | cases hd | skip
    cases p <;> simp only [evNilq] at hp <;> first | cases hp | skip
    · rw [rd_nilI hu]; exact ⟨by simp [Op.equalIn, run_underlying hx, Act.eval], by simp [Op.equalIn, run_underlying hx, Act.eval]⟩
    · obtain ⟨t', v', rfl⟩ := rd_anyI hu; exact ⟨by simp [Op.equalIn, run_underlying hx, Act.eval], by simp [Op.equalIn, run_underlying hx, Act.eval]⟩
  · cases hk
    cases d <;> simp only [typeKind] at hd <;> first | cases hd | skip
    cases p <;> simp only [evNilq] at hp <;> first | cases hp | skip
    · cases b
      · obtain ⟨a', rfl⟩ := rd_zf hu; exact ⟨by simp [Op.equalIn, run_underlying hx, Act.eval], by simp [Op.equalIn, run_underlying hx, Act.eval]⟩
      · rw [rd_zt hu]; exact ⟨by simp [Op.equalIn, run_underlying hx, Act.eval], by simp [Op.equalIn, run_underlying hx, Act.eval]⟩
    · obtain ⟨b, off, cap, f, rfl, _⟩ := rd_sl hu; exact ⟨by simp [Op.equalIn, run_underlying hx, Act.eval], by simp [Op.equalIn, run_underlying hx, Act.eval]⟩
    · obtain ⟨b, N, cap, _, rfl, _⟩ := rd_ms hu; exact ⟨by simp [Op.equalIn, run_underlying hx, Act.eval], by simp [Op.equalIn, run_underlying hx, Act.eval]⟩
  · cases hk
    cases d <;> simp only [typeKind] at hd <;> first | cases hd | skip
    cases p <;> simp only [evNilq] at hp <;> first | cases hp | skip
    · rw [rd_nilF hu]; exact ⟨by simp [Op.equalIn, run_underlying hx, Act.eval], by simp [Op.equalIn, run_underlying hx, Act.eval]⟩
    · obtain ⟨vs, rfl, _⟩ := rd_fn hu; exact ⟨by simp [Op.equalIn, run_underlying hx, Act.eval], by simp [Op.equalIn, run_underlying hx, Act.eval]⟩
  · cases hk
    cases d <;> simp only [typeKind] at hd <;> first | cases hd | skip
    cases p <;> simp only [evNilq] at hp <;> first | cases hp | skip
    · rw [rd_nilP hu]; exact ⟨by simp [Op.equalIn, run_underlying hx, Act.eval], by simp [Op.equalIn, run_underlying hx, Act.eval]⟩
    · obtain ⟨b, N, _, rfl⟩ := rd_mp hu; exact ⟨by simp [Op.equalIn, run_underlying hx, Act.eval], by simp [Op.equalIn, run_underlying hx, Act.eval]⟩
    · obtain ⟨b, off, f, rfl, _⟩ := rd_ip hu; exact ⟨by simp [Op.equalIn, run_underlying hx, Act.eval], by simp [Op.equalIn, run_underlying hx, Act.eval]⟩
  · cases hk

theorem nil_const {y : Operand} {kd : Nat} (hk : nilKind y = some kd) : (∃ v, y = .const v) ∧ (a.eval y = .nilIface ∨ a.eval y = .slice none 0 0 ∨ a.eval y = .nilFunc ∨ a.eval y = .pointer none) := by
  unfold nilKind at hk
  split at hk <;> first | exact ⟨⟨_, rfl⟩, by simp [Act.eval]⟩ | cases hk

theorem not_scalar {kd : Nat} {u : Value} {p : PV} {b : Bool} (hu : Rd c μ u p) (hp : evNilq kd p = some b) : (∀ k n, u ≠ .int k n) ∧ (∀ s, u ≠ .string s) ∧ (∀ n, u ≠ .agg n) ∧ (∀ k n, u ≠ .float k n) ∧ (∀ k n m, u ≠ .complex k n m) := by
  unfold evNilq at hp
  split at hp <;> first | (simp at hp; done) | (cases hu <;> (refine ⟨?_, ?_, ?_, ?_, ?_⟩ <;> intros <;> intro h <;> cases h))

theorem nil_guard {op : BinOp} {t : TypeId} {x y : Operand} {u v : Value} (hu : ∀ n, u ≠ .agg n) (hc : (∃ z, x = .const z) ∨ (∃ z, y = .const z)) : (eqGuard op t x y u v).run P w = .ok () w := by
  unfold eqGuard
  rcases hc with ⟨z, rfl⟩ | ⟨z, rfl⟩ <;> cases op <;> first | rfl | (cases u <;> cases v <;> first | rfl | exact absurd rfl (hu _) | simp)

theorem binOp_eq {neq : Bool} {t : TypeId} {u v : Value} {b : Bool} (hu : (∀ k n, u ≠ .int k n) ∧ (∀ s, u ≠ .string s) ∧ (∀ n, u ≠ .agg n) ∧ (∀ k n, u ≠ .float k n) ∧ (∀ k n m, u ≠ .complex k n m)) (h : (Op.equalIn 10000 t u v).run P w = .ok b w) :
    (binOp (bif neq then .neq else .eql) t u v).run P w = .ok (.bool (bif neq then !b else b)) w := by
  obtain ⟨h1, h2, _, h3, h4⟩ := hu
  cases neq
  · have : binOp .eql t u v = (do pure (Value.bool (← Op.equal t u v)) : Sem Value) := by
      cases u <;> first | rfl | exact absurd rfl (h1 _ _) | exact absurd rfl (h2 _) | exact absurd rfl (h3 _ _) | exact absurd rfl (h4 _ _ _)
    simp only [cond_false, this, Sem.run_bind]
    show ((Op.equalIn 10000 t u v).run P w).andThen _ = _
    rw [h]; rfl
  · have : binOp .neq t u v = (do pure (Value.bool (!(← Op.equal t u v))) : Sem Value) := by
      cases u <;> first | rfl | exact absurd rfl (h1 _ _) | exact absurd rfl (h2 _) | exact absurd rfl (h3 _ _) | exact absurd rfl (h4 _ _ _)
    simp only [cond_true, this, Sem.run_bind]
    show ((Op.equalIn 10000 t u v).run P w).andThen _ = _
    rw [h]; rfl

theorem q_nilq (hI : Inv B w0 ca c μ ρ w) (he : EnvR c μ a e) {neq : Bool} {kd : Nat} {t u : TypeId} {x y : Operand} {sx : SV} (ho : o.op = .binOp (bif neq then .neq else .eql) t x y u) (hx : cSV x = some sx) (hd : typeKind (P.underlying t) = some kd) (hk : nilKind y = some kd)
    {b : Bool} (hb : evNilq kd (sx.ev e) = some b) : OpRuns P o a w (Quiet c μ w (.bool (bif neq then !b else b))) := by
  have hu := cSV_rd he hx
  have hq := (nil_equal (P := P) (w := w) (a := a) hd hu hb hk 9999).1
  have hns := not_scalar hu hb
  refine q_of (v := .bool (bif neq then !b else b)) hI ?_ (.bool _)
  have h : (do eqGuard (bif neq then .neq else .eql) t x y (a.eval x) (a.eval y); binOp (bif neq then .neq else .eql) t (a.eval x) (a.eval y) : Sem Value).run P w = .ok (.bool (bif neq then !b else b)) w := by
    simp only [Sem.run_bind, nil_guard hns.2.2.1 (.inr (nil_const (a := a) hk).1), Result.andThen_ok]
    exact binOp_eq hns hq
  simp only [execOp, ho, Sem.run_bind] at h ⊢
  rw [h]; rfl

theorem q_nilq' (hI : Inv B w0 ca c μ ρ w) (he : EnvR c μ a e) {neq : Bool} {kd : Nat} {t u : TypeId} {x y : Operand} {sy : SV} (ho : o.op = .binOp (bif neq then .neq else .eql) t x y u) (hy : cSV y = some sy) (hd : typeKind (P.underlying t) = some kd) (hk : nilKind x = some kd)
    {b : Bool} (hb : evNilq kd (sy.ev e) = some b) : OpRuns P o a w (Quiet c μ w (.bool (bif neq then !b else b))) := by
  have hu := cSV_rd he hy
  have hq := (nil_equal (P := P) (w := w) (a := a) hd hu hb hk 9999).2
  obtain ⟨hcst, hnil⟩ := nil_const (a := a) hk
  have hns : (∀ k n, a.eval x ≠ .int k n) ∧ (∀ s, a.eval x ≠ .string s) ∧ (∀ n, a.eval x ≠ .agg n) ∧ (∀ k n, a.eval x ≠ .float k n) ∧ (∀ k n m, a.eval x ≠ .complex k n m) := by
    rcases hnil with h | h | h | h <;> rw [h] <;> (refine ⟨?_, ?_, ?_, ?_, ?_⟩ <;> intros <;> intro h' <;> cases h')
  refine q_of (v := .bool (bif neq then !b else b)) hI ?_ (.bool _)
  have h : (do eqGuard (bif neq then .neq else .eql) t x y (a.eval x) (a.eval y); binOp (bif neq then .neq else .eql) t (a.eval x) (a.eval y) : Sem Value).run P w = .ok (.bool (bif neq then !b else b)) w := by
    simp only [Sem.run_bind, nil_guard hns.2.2.1 (.inl hcst), Result.andThen_ok]
    exact binOp_eq hns hq
  simp only [execOp, ho, Sem.run_bind] at h ⊢
  rw [h]; rfl

end
end Go.Proofs.YtkccoijckckhmaaGreatDoor.Ev

namespace Go.Proofs.YtkccoijckckhmaaGreatDoor.Ev
open Go Go.RowKit

section
variable {P : Program} {T : Tab} {call : FuncId → List PV → Store → Option (PV × Store)} {rc : FuncId → Bool} {c : Cm} {μ : Mu} {a : Act} {e : Env} {w : World} {o : Oper} {ρ : Store} {B : Nat} {w0 : World} {ca : Cm}

theorem mapM_run {α β : Type} (f : α → Sem β) (g : α → β) : ∀ (l : List α), (∀ x, x ∈ l → (f x).run P w = .ok (g x) w) → (l.mapM f).run P w = .ok (l.map g) w
  | [], _ => by simp
  | x :: l, h => by
    have ih := mapM_run f g l fun y hy => h y (List.mem_cons_of_mem _ hy)
    simp [List.mapM_cons, h x (List.mem_cons_self ..), ih]

theorem mapM_arr_run {α β : Type} (f : α → Sem β) (g : α → β) (l : Array α) (h : ∀ x, x ∈ l → (f x).run P w = .ok (g x) w) : (l.mapM f).run P w = .ok (l.map g) w := by
  rw [Array.mapM_eq_mapM_toList, Sem.run_map, mapM_run f g l.toList (fun x hx => h x (by simpa using hx))]
  rw [Result.andThen_ok]
  congr 1
  apply Array.ext'
  simp

/-- A part put into cells. -/
theorem setFold_size (off : Nat) : ∀ (l : List Value) (k : Nat) (cs : Array Value), ((l.zipIdx k).foldl (fun (cs : Array Value) (p : Value × Nat) => cs.setIfInBounds (off + p.2) p.1) cs).size = cs.size
  | [], _, _ => rfl
  | v :: l, k, cs => by simp only [List.zipIdx_cons, List.foldl_cons]; rw [setFold_size off l (k + 1)]; simp

theorem setFold_get (off : Nat) : ∀ (l : List Value) (k : Nat) (cs : Array Value) (i : Nat), off + k + l.length ≤ cs.size →
    ((l.zipIdx k).foldl (fun (cs : Array Value) (p : Value × Nat) => cs.setIfInBounds (off + p.2) p.1) cs).getD i undef = if off + k ≤ i ∧ i < off + k + l.length then l.getD (i - off - k) undef else cs.getD i undef
  | [], k, cs, i, _ => by simp; intro h1 h2; omega
  | v :: l, k, cs, i, h => by
    simp only [List.zipIdx_cons, List.foldl_cons]
    rw [setFold_get off l (k + 1) _ i (by simp at h ⊢; omega)]
    simp only [List.length_cons] at h ⊢
    by_cases h1 : off + (k + 1) ≤ i ∧ i < off + (k + 1) + l.length
    · rw [if_pos h1, if_pos (by omega)]
      rw [show i - off - k = (i - off - (k + 1)) + 1 from by omega]
      simp
    · rw [if_neg h1]
      by_cases h2 : i = off + k
      · subst h2
        rw [if_pos (by omega)]
        have : off + k < cs.size := by omega
        simp [this]
      · rw [if_neg (by omega)]
        simp [Array.getElem?_setIfInBounds_ne (show off + k ≠ i from fun h => h2 h.symm)]

theorem setFold_arr (off : Nat) (v cs : Array Value) : v.zipIdx.foldl (fun cs (p : Value × Nat) => cs.setIfInBounds (off + p.2) p.1) cs = (v.toList.zipIdx 0).foldl (fun (cs : Array Value) (p : Value × Nat) => cs.setIfInBounds (off + p.2) p.1) cs := by
  rw [← Array.foldl_toList]
  simp

/-- 'These cells read as these', of arrays. -/
def RdA (c : Cm) (μ : Mu) (vs : Array Value) (ps : List PV) : Prop := vs.size = ps.length ∧ ∀ (i : Nat) x, ps[i]? = some x → Rd c μ (vs.getD i undef) x

theorem RdA.of_list {vs : Array Value} {ps : List PV} (h : RdL c μ vs.toList ps) : RdA c μ vs ps :=
  ⟨by have := h.length; simpa using this, fun i x e => by have := h.get i x e; simpa using this⟩

theorem RdA.toList {vs : Array Value} {ps : List PV} (h : RdA c μ vs ps) : RdL c μ vs.toList ps :=
  RdL.of_get (by simpa using h.1) fun i x e => by simpa using h.2 i x e

theorem splice_rd {off : Nat} {cs v : Array Value} {ps qs : List PV} (h : RdA c μ cs ps) (hv : RdA c μ v qs) (hl : off + qs.length ≤ ps.length) :
    RdA c μ (v.zipIdx.foldl (fun cs (p : Value × Nat) => cs.setIfInBounds (off + p.2) p.1) cs) (spliceAt ps off qs) := by
  rw [setFold_arr]
  have hlen : (spliceAt ps off qs).length = ps.length := by simp [spliceAt]; omega
  refine ⟨by rw [setFold_size, h.1, hlen], fun i x e => ?_⟩
  rw [setFold_get off v.toList 0 cs i (by rw [h.1]; simp [hv.1]; omega)]
  unfold spliceAt at e
  simp only [Nat.add_zero, Nat.sub_zero, Array.length_toList, hv.1]
  rw [List.append_assoc, List.getElem?_append] at e
  simp only [List.length_take, Nat.min_eq_left (by omega : off ≤ ps.length)] at e
  split at e
  · rename_i hi
    rw [if_neg (by omega)]
    rw [List.getElem?_take, if_pos hi] at e
    exact h.2 i x e
  · rename_i hi
    rw [List.getElem?_append] at e
    split at e
    · rename_i hi2
      rw [if_pos (by omega)]
      have := hv.2 (i - off) x e
      simpa using this
    · rename_i hi2
      rw [if_neg (by omega)]
      rw [List.getElem?_drop] at e
      rw [show off + qs.length + (i - off - qs.length) = i from by omega] at e
      exact h.2 i x e

theorem fill_run {place : Nat → Option (Nat × Nat)} (he : EnvR c μ a e) : ∀ (parts : List (Nat × Operand)) (sp : List (Nat × Nat × SV)) (cs : Array Value) (ps qs : List PV),
    (∀ n, n < parts.length → ∃ i x off sz y, parts[n]? = some (i, x) ∧ sp[n]? = some (off, sz, y) ∧ place i = some (off, sz) ∧ cSV x = some y) → parts.length = sp.length →
    RdA c μ cs ps → fillParts e sp ps = some qs → ∃ out, Instr.fill place cs (parts.map fun (i, x) => (i, a.eval x)) = some out ∧ RdA c μ out qs
  | [], sp, cs, ps, qs, _, hl, hr, hf => by
    have : sp = [] := by cases sp with | nil => rfl | cons _ _ => simp at hl
    subst this
    cases hf
    exact ⟨cs, rfl, hr⟩
  | (i, x) :: parts, sp, cs, ps, qs, hp, hl, hr, hf => by
    cases sp with
    | nil => simp at hl
    | cons s sp =>
    obtain ⟨i', x', off, sz, y, h1, h2, h3, h4⟩ := hp 0 (by simp)
    simp only [List.getElem?_cons_zero, Option.some.injEq, Prod.mk.injEq] at h1 h2
    obtain ⟨rfl, rfl⟩ := h1
    subst h2
    simp only [fillParts] at hf
    split at hf
    · rename_i vs hvs
      split at hf
      · rename_i hle
        obtain ⟨n1, n2, n3⟩ := nCells_rd (cSV_rd he h4) hvs
        have hv := RdA.of_list n3
        have hstep := splice_rd (off := off) hr hv (by rw [n2]; exact hle)
        obtain ⟨out, o1, o2⟩ := fill_run he parts sp _ _ qs (fun n hn => by
          obtain ⟨i2, x2, off2, sz2, y2, k1, k2, k3, k4⟩ := hp (n + 1) (by simp; omega)
          exact ⟨i2, x2, off2, sz2, y2, by simpa using k1, by simpa using k2, k3, k4⟩) (by simpa using hl) hstep hf
        refine ⟨out, ?_, o2⟩
        simp only [List.map_cons, Instr.fill, h3]
        rw [if_neg (by rw [n1, hr.1]; simp; omega)]
        exact o1
      · cases hf
    · cases hf

theorem q_un (hI : Inv B w0 ca c μ ρ w) (he : EnvR c μ a e) {op : UnOp} {t : TypeId} {x : Operand} {sx : SV} (ho : o.op = .unOp op t x) (hx : cSV x = some sx) {p : PV} (hp : evUn op (sx.ev e) = some p) : OpRuns P o a w (Quiet c μ w p) := by
  have h1 := cSV_rd he hx
  unfold evUn at hp
  split at hp
  · rename_i k n hs
    cases hp
    rw [hs] at h1
    exact q_of (v := .int k (k.wrap (0 - n))) hI (by simp [execOp, ho, rd_int h1, Op.unary, Op.intArith]) (.int _ _)
  · rename_i b hs
    cases hp
    rw [hs] at h1
    exact q_of (v := .bool (!b)) hI (by simp [execOp, ho, rd_bool h1, Op.unary]) (.bool _)
  · rename_i k n hs
    cases hp
    rw [hs] at h1
    exact q_of (v := .int k (k.wrap (BitVec.ofInt k.bits (if k.signed then -1 else k.max) ^^^ BitVec.ofInt k.bits n).toNat)) hI (by simp [execOp, ho, rd_int h1, Op.unary, Op.intBits]) (.int _ _)
  · cases hp

theorem q_conv (hI : Inv B w0 ca c μ ρ w) (he : EnvR c μ a e) {s d : TypeId} {x : Operand} {sx : SV} {k' k : IntKind} (ho : o.op = .convert s d x) (hx : cSV x = some sx) (hs : P.underlying s = some (.int k')) (hd : P.underlying d = some (.int k))
    {k2 : IntKind} {n : Int} (hv : sx.ev e = .int k2 n) : OpRuns P o a w (Quiet c μ w (.int k (k.wrap n))) := by
  have h1 := cSV_rd he hx
  rw [hv] at h1
  refine q_of (v := .int k (k.wrap n)) hI ?_ (.int _ _)
  simp [execOp, ho, rd_int h1, convert, run_underlying hs, run_underlying hd, Conv.intToInt]

theorem q_convS (hI : Inv B w0 ca c μ ρ w) (he : EnvR c μ a e) {s d : TypeId} {x : Operand} {sx : SV} (ho : o.op = .convert s d x) (hx : cSV x = some sx) (hs : P.underlying s = some .string) (hd : P.underlying d = some .string)
    {z : ByteArray} (hv : sx.ev e = .str z) : OpRuns P o a w (Quiet c μ w (.str z)) := by
  have h1 := cSV_rd he hx
  rw [hv] at h1
  refine q_of (v := .string z) hI ?_ (.str _)
  simp [execOp, ho, rd_str h1, convert, run_underlying hs, run_underlying hd]

theorem q_ext (hI : Inv B w0 ca c μ ρ w) (he : EnvR c μ a e) {i : Nat} {x : Operand} {sx : SV} (ho : o.op = .extract x i) (hx : cSV x = some sx) {vs : List PV} {p : PV} (hv : sx.ev e = .tup vs) (hp : vs[i]? = some p) : OpRuns P o a w (Quiet c μ w p) := by
  have h1 := cSV_rd he hx
  rw [hv] at h1
  obtain ⟨us, hu, hn, hr⟩ := rd_tup h1
  have hi : i < us.size := by
    rw [hn]
    rcases Nat.lt_or_ge i vs.length with h' | h'
    · exact h'
    · simp [List.getElem?_eq_none h'] at hp
  refine q_of (v := us.getD i undef) hI ?_ (hr i p hp)
  simp [execOp, ho, hu, Instr.extract, hi]

theorem q_fld (hI : Inv B w0 ca c μ ρ w) (he : EnvR c μ a e) {t : TypeId} {f : Nat} {x : Operand} {sx : SV} {fs : Array Field} {fd : Field} {n : Nat} {g : Bool} (ho : o.op = .field t x f) (hx : cSV x = some sx) (ht : P.underlying t = some (.struct fs)) (hf : fs[f]? = some fd)
    (hn : sizeT P fd.type = some n) (hg : aggT P fd.type = some g) {cs : List PV} {p : PV} (hv : sx.ev e = .agg cs) (hl : fd.offset + n ≤ cs.length) (hp : joinCells n g (cs.drop fd.offset) = some p) : OpRuns P o a w (Quiet c μ w p) := by
  have h1 := cSV_rd he hx
  rw [hv] at h1
  obtain ⟨us, hu, hsz, hr⟩ := rd_agg h1
  cases g with
  | false =>
    simp only [joinCells] at hp
    rw [List.getElem?_drop, Nat.add_zero] at hp
    have hi : fd.offset < us.size := by
      rw [hsz]
      rcases Nat.lt_or_ge fd.offset cs.length with h' | h'
      · exact h'
      · simp [List.getElem?_eq_none h'] at hp
    refine q_of (v := us.getD fd.offset undef) hI ?_ (hr _ p hp)
    simp [execOp, ho, hu, Instr.field, run_underlying ht, hf, part, isAgg_run hg, asAgg, hi]
  | true =>
    simp only [joinCells] at hp
    split at hp
    · cases hp
      refine q_of (v := .agg (us.extract fd.offset (fd.offset + n))) hI ?_ ?_
      · simp [execOp, ho, hu, Instr.field, run_underlying ht, hf, part, isAgg_run hg, asAgg, sizeT_run hn]
      · refine .agg _ _ (by simp; omega) fun i y ey => ?_
        rw [List.getElem?_take] at ey
        split at ey
        · rename_i hi
          rw [List.getElem?_drop] at ey
          have := hr (fd.offset + i) y ey
          have hlt : fd.offset + i < us.size := by omega
          have h2 : (us.extract fd.offset (fd.offset + n)).getD i undef = us.getD (fd.offset + i) undef := by
            rw [Array.getD_eq_getD_getElem?, Array.getD_eq_getD_getElem?, Array.getElem?_extract, if_pos (by omega)]
          rw [h2]
          exact this
        · cases ey
    · cases hp

end
end Go.Proofs.YtkccoijckckhmaaGreatDoor.Ev

namespace Go.Proofs.YtkccoijckckhmaaGreatDoor.Ev
open Go Go.RowKit

theorem cellAt_some {es : List (List PV)} {i j : Nat} {x : PV} (h : cellAt es i j = some x) : ∃ cs, es[i]? = some cs ∧ cs[j]? = some x := by
  unfold cellAt at h
  cases hi : es[i]? with
  | none => simp [hi] at h
  | some cs => simp [hi] at h; exact ⟨cs, rfl, h⟩

theorem cellAt_lt {es : List (List PV)} {esz i j : Nat} {x : PV} (hl : ∀ cs, cs ∈ es → cs.length = esz) (h : cellAt es i j = some x) : i < es.length ∧ j < esz ∧ i * esz + j < es.length * esz := by
  obtain ⟨cs, h1, h2⟩ := cellAt_some h
  have hi : i < es.length := by
    rcases Nat.lt_or_ge i es.length with h' | h'
    · exact h'
    · simp [List.getElem?_eq_none h'] at h1
  have hj : j < esz := by
    rw [← hl cs (List.mem_of_getElem? h1)]
    rcases Nat.lt_or_ge j cs.length with h' | h'
    · exact h'
    · simp [List.getElem?_eq_none h'] at h2
  refine ⟨hi, hj, ?_⟩
  have : (i + 1) * esz ≤ es.length * esz := Nat.mul_le_mul_right _ hi
  rw [Nat.succ_mul] at this
  omega

theorem flat_len {esz : Nat} : ∀ {es : List (List PV)}, (∀ cs, cs ∈ es → cs.length = esz) → es.flatten.length = es.length * esz
  | [], _ => by simp
  | cs :: es, h => by
    rw [List.flatten_cons, List.length_append, flat_len fun c hc => h c (List.mem_cons_of_mem _ hc), h cs (List.mem_cons_self ..), List.length_cons, Nat.succ_mul]
    omega

theorem flat_at {esz : Nat} : ∀ {es : List (List PV)}, (∀ cs, cs ∈ es → cs.length = esz) → ∀ i j, i < es.length → j < esz → es.flatten[i * esz + j]? = cellAt es i j
  | [], _, i, j, hi, _ => by simp at hi
  | cs :: es, h, 0, j, _, hj => by
    rw [List.flatten_cons, Nat.zero_mul, Nat.zero_add, List.getElem?_append, if_pos (by rw [h cs (List.mem_cons_self ..)]; exact hj)]
    simp [cellAt]
  | cs :: es, h, i + 1, j, hi, hj => by
    have hc := h cs (List.mem_cons_self ..)
    rw [List.flatten_cons, List.getElem?_append, if_neg (by rw [hc, Nat.succ_mul]; omega), hc]
    rw [show (i + 1) * esz + j - esz = i * esz + j from by rw [Nat.succ_mul]; omega]
    rw [flat_at (fun c hc => h c (List.mem_cons_of_mem _ hc)) i j (by simpa using hi) hj]
    simp [cellAt]

theorem flat_set {esz : Nat} : ∀ {es : List (List PV)}, (∀ cs, cs ∈ es → cs.length = esz) → ∀ i vs, vs.length = esz → i < es.length → (es.set i vs).flatten = spliceAt es.flatten (i * esz) vs
  | [], _, i, vs, _, hi => by simp at hi
  | cs :: es, h, 0, vs, hv, _ => by
    have hc := h cs (List.mem_cons_self ..)
    simp [spliceAt, hv, ← hc]
  | cs :: es, h, i + 1, vs, hv, hi => by
    have hc := h cs (List.mem_cons_self ..)
    have ih := flat_set (fun c hc => h c (List.mem_cons_of_mem _ hc)) i vs hv (by simpa using hi)
    rw [List.set_cons_succ, List.flatten_cons, List.flatten_cons, ih]
    unfold spliceAt
    rw [List.take_append, List.drop_append, hc]
    rw [show (i + 1) * esz - esz = i * esz from by rw [Nat.succ_mul]; omega]
    rw [show (i + 1) * esz + vs.length - esz = i * esz + vs.length from by rw [Nat.succ_mul]; omega]
    rw [List.take_of_length_le (l := cs) (by rw [hc, Nat.succ_mul]; omega), List.drop_of_length_le (l := cs) (by rw [hc, Nat.succ_mul]; omega)]
    simp

theorem set_len {esz : Nat} {es : List (List PV)} (h : ∀ cs, cs ∈ es → cs.length = esz) {i : Nat} {vs : List PV} (hv : vs.length = esz) : ∀ cs, cs ∈ es.set i vs → cs.length = esz := by
  intro cs hc
  rcases List.mem_or_eq_of_mem_set hc with h' | h'
  · exact h cs h'
  · rw [h']; exact hv

section
variable {P : Program} {T : Tab} {call : FuncId → List PV → Store → Option (PV × Store)} {rc : FuncId → Bool} {c : Cm} {μ : Mu} {a : Act} {e : Env} {w : World} {o : Oper} {ρ : Store} {B : Nat} {w0 : World} {ca : Cm}

theorem cBuildS_spec {fs : Array Field} : ∀ {parts : List (Nat × Operand)} {sp : List (Nat × Nat × SV)}, cBuildS P fs parts = some sp → parts.length = sp.length ∧
    ∀ n, n < parts.length → ∃ i x f sz y, parts[n]? = some (i, x) ∧ sp[n]? = some (f.offset, sz, y) ∧ fs[i]? = some f ∧ sizeT P f.type = some sz ∧ cSV x = some y
  | [], sp, h => by cases h; exact ⟨rfl, fun n hn => by simp at hn⟩
  | (i, x) :: ps, sp, h => by
    simp only [cBuildS] at h
    split at h
    · cases h
    · rename_i f hf
      split at h
      · rename_i n y r h1 h2 h3
        cases h
        obtain ⟨k1, k2⟩ := cBuildS_spec h3
        refine ⟨by simp [k1], fun m hm => ?_⟩
        cases m with
        | zero => exact ⟨i, x, f, n, y, rfl, rfl, hf, h1, h2⟩
        | succ m => simpa using k2 m (by simpa using hm)
      · cases h

theorem cBuildA_spec {sz : Nat} : ∀ {parts : List (Nat × Operand)} {sp : List (Nat × Nat × SV)}, cBuildA sz parts = some sp → parts.length = sp.length ∧
    ∀ n, n < parts.length → ∃ i x y, parts[n]? = some (i, x) ∧ sp[n]? = some (i * sz, sz, y) ∧ cSV x = some y
  | [], sp, h => by cases h; exact ⟨rfl, fun n hn => by simp at hn⟩
  | (i, x) :: ps, sp, h => by
    simp only [cBuildA] at h
    split at h
    · rename_i y r h2 h3
      cases h
      obtain ⟨k1, k2⟩ := cBuildA_spec h3
      refine ⟨by simp [k1], fun m hm => ?_⟩
      cases m with
      | zero => exact ⟨i, x, y, rfl, rfl, h2⟩
      | succ m => simpa using k2 m (by simpa using hm)
    · cases h

theorem q_bldS (hI : Inv B w0 ca c μ ρ w) (he : EnvR c μ a e) {t : TypeId} {parts : Array (Nat × Operand)} {fs : Array Field} {z qs : List PV} {sp : List (Nat × Nat × SV)} (ho : o.op = .build t parts) (ht : P.underlying t = some (.struct fs)) (hz : zeroT P t = some z)
    (hsp : cBuildS P fs parts.toList = some sp) (hall : fs.all (fun f => (P.info? f.type).isSome) = true) (hf : fillParts e sp z = some qs) : OpRuns P o a w (Quiet c μ w (.agg qs)) := by
  obtain ⟨v, hv, hv1, hv2⟩ := zeroT_run (P := P) (w := w) (c := c) (μ := μ) hz
  obtain ⟨k1, k2⟩ := cBuildS_spec hsp
  let g : Field → Nat × Nat := fun f => (f.offset, ((P.info? f.type).map (·.size)).getD 0)
  have hm : (fs.mapM fun f => do pure (f.offset, ← sizeOf f.type) : Sem (Array (Nat × Nat))).run P w = .ok (fs.map g) w := by
    refine mapM_arr_run _ g fs fun f hf => ?_
    have := (Array.all_eq_true'.1 hall) f hf
    obtain ⟨i, hi⟩ := Option.isSome_iff_exists.1 this
    simp [sizeOf, typeInfo, hi, g]
  obtain ⟨out, o1, o2⟩ := fill_run (place := fun i => (fs.map g)[i]?) he parts.toList sp v.cells z qs (fun n hn => by
    obtain ⟨i, x, f, sz, y, h1, h2, h3, h4, h5⟩ := k2 n hn
    refine ⟨i, x, f.offset, sz, y, h1, h2, ?_, h5⟩
    simp [h3, g]
    unfold sizeT at h4
    rw [h4]; rfl) k1 (RdA.of_list hv2) hf
  refine q_of (v := .agg out) hI ?_ (.agg _ _ o2.1 o2.2)
  have hto : (parts.map fun (i, x) => (i, a.eval x)).toList = parts.toList.map fun (i, x) => (i, a.eval x) := by simp
  simp only [execOp, ho, Instr.build, Sem.run_bind, hv, Result.andThen_ok, run_underlying ht, hm, hto, o1]
  rfl

theorem q_bldA (hI : Inv B w0 ca c μ ρ w) (he : EnvR c μ a e) {t : TypeId} {parts : Array (Nat × Operand)} {len el n : Nat} {z qs : List PV} {sp : List (Nat × Nat × SV)} (ho : o.op = .build t parts) (ht : P.underlying t = some (.array len el)) (hz : zeroT P t = some z)
    (hn : sizeT P el = some n) (hsp : cBuildA n parts.toList = some sp) (hf : fillParts e sp z = some qs) : OpRuns P o a w (Quiet c μ w (.agg qs)) := by
  obtain ⟨v, hv, hv1, hv2⟩ := zeroT_run (P := P) (w := w) (c := c) (μ := μ) hz
  obtain ⟨k1, k2⟩ := cBuildA_spec hsp
  obtain ⟨out, o1, o2⟩ := fill_run (place := fun i => some (i * n, n)) he parts.toList sp v.cells z qs (fun m hm => by
    obtain ⟨i, x, y, h1, h2, h5⟩ := k2 m hm
    exact ⟨i, x, i * n, n, y, h1, h2, rfl, h5⟩) k1 (RdA.of_list hv2) hf
  refine q_of (v := .agg out) hI ?_ (.agg _ _ o2.1 o2.2)
  have hto : (parts.map fun (i, x) => (i, a.eval x)).toList = parts.toList.map fun (i, x) => (i, a.eval x) := by simp
  simp only [execOp, ho, Instr.build, Sem.run_bind, hv, Result.andThen_ok, run_underlying ht, sizeT_run hn, hto, o1]
  rfl

theorem cElems_spec : ∀ {parts : List (Nat × Operand)} {sp : List (Nat × SV)}, cElems parts = some sp → parts.length = sp.length ∧
    ∀ n, n < parts.length → ∃ i x y, parts[n]? = some (i, x) ∧ sp[n]? = some (i, y) ∧ cSV x = some y
  | [], sp, h => by cases h; exact ⟨rfl, fun n hn => by simp at hn⟩
  | (i, x) :: ps, sp, h => by
    simp only [cElems] at h
    split at h
    · rename_i y r h2 h3
      cases h
      obtain ⟨k1, k2⟩ := cElems_spec h3
      refine ⟨by simp [k1], fun m hm => ?_⟩
      cases m with
      | zero => exact ⟨i, x, y, rfl, rfl, h2⟩
      | succ m => simpa using k2 m (by simpa using hm)
    · cases h

/-- The elements of a literal, as its flat cells. -/
theorem fillElems_flat {esz : Nat} : ∀ (sp : List (Nat × SV)) (es es' : List (List PV)), (∀ cs, cs ∈ es → cs.length = esz) → fillElems e esz sp es = some es' →
    (∀ cs, cs ∈ es' → cs.length = esz) ∧ es'.length = es.length ∧ fillParts e (sp.map fun (i, x) => (i * esz, esz, x)) es.flatten = some es'.flatten
  | [], es, es', hl, h => by cases h; exact ⟨hl, rfl, rfl⟩
  | (i, x) :: sp, es, es', hl, h => by
    simp only [fillElems] at h
    split at h
    · rename_i vs hvs
      split at h
      · rename_i hi
        have hvl : vs.length = esz := by
          revert hvs
          cases x.ev e <;> simp only [nCells] <;> (try split) <;> intro hh <;> cases hh <;> simp_all
        obtain ⟨k1, k2, k3⟩ := fillElems_flat sp (es.set i vs) es' (set_len hl hvl) h
        refine ⟨k1, by simpa using k2, ?_⟩
        simp only [List.map_cons, fillParts, hvs]
        have hle : i * esz + esz ≤ es.flatten.length := by
          rw [flat_len hl]
          have : (i + 1) * esz ≤ es.length * esz := Nat.mul_le_mul_right _ hi
          rw [Nat.succ_mul] at this
          exact this
        rw [if_pos hle, ← flat_set hl i vs hvl hi]
        exact k3
      · cases h
    · cases h

/-- The first cells of a new block, known. -/
theorem new_sl {cells : Array Value} {esz cap : Nat} {es : List (List PV)} {w1 : World} (hc : ∀ b o u, c b o = some u → w.cell? ⟨b, o, none⟩ = some u) (hb : Below w.heap.size w w1)
    (hcell : ∀ i, i < es.length * esz → w1.cell? ⟨w.heap.size, i, none⟩ = some (cells.getD i undef)) (hcap : es.length ≤ cap) (hl : ∀ cs, cs ∈ es → cs.length = esz) (hr : ∀ i j x, cellAt es i j = some x → Rd c μ (cells.getD (i * esz + j) undef) x) :
    Quiet c μ w (.sl esz es) (.slice (some ⟨w.heap.size, 0, none⟩) es.length cap) w1 := by
  refine ⟨cAt w.heap.size c w1, cAt_le hc, cAt_fresh _ _ _, hb, cAt_cells hc hb, ?_⟩
  refine .sl _ 0 cap esz es (fun i j => cells.getD (i * esz + j) undef) hcap hl (fun i j x h => ?_) (fun i j x h => (hr i j x h).mono (cAt_le hc) (LeM.refl _))
  have := cellAt_lt hl h
  simp only [cAt, Nat.lt_irrefl, if_false, Nat.zero_add]
  exact hcell _ this.2.2

theorem replicate_flat_rd {n : Nat} {zs : Array Value} {z : List PV} (hz : RdA c μ zs z) (h0 : z.length ≠ 0) :
    RdA c μ ((Array.range (n * z.length)).map (zs[· % zs.size]!)) (List.replicate n z).flatten := by
  have hl : ∀ cs, cs ∈ List.replicate n z → cs.length = z.length := fun cs h => by rw [(List.mem_replicate.1 h).2]
  refine ⟨by rw [flat_len hl]; simp, fun i x e => ?_⟩
  have hi : i < n * z.length := by
    rcases Nat.lt_or_ge i (n * z.length) with h' | h'
    · exact h'
    · rw [List.getElem?_eq_none (by rw [flat_len hl]; simpa using h')] at e; cases e
  have hj : i % z.length < z.length := Nat.mod_lt _ (Nat.pos_of_ne_zero h0)
  have hd : i / z.length < n := (Nat.div_lt_iff_lt_mul (Nat.pos_of_ne_zero h0)).2 hi
  have := flat_at hl (i / z.length) (i % z.length) (by simpa using hd) hj
  rw [show i / z.length * z.length + i % z.length = i from by rw [Nat.mul_comm]; exact Nat.div_add_mod _ _] at this
  rw [this] at e
  obtain ⟨cs, e1, e2⟩ := cellAt_some e
  rw [List.getElem?_replicate, if_pos hd] at e1
  cases e1
  have hr := hz.2 _ x e2
  have hs : zs.size = z.length := hz.1
  have : ((Array.range (n * z.length)).map (zs[· % zs.size]!)).getD i undef = zs.getD (i % z.length) undef := by
    have h1 : i % zs.size < zs.size := by rw [hs]; exact hj
    simp [hi, hs, hj]
  rw [this]
  exact hr

theorem q_bsl (hI : Inv B w0 ca c μ ρ w) (he : EnvR c μ a e) {t : TypeId} {len el n : Nat} {parts : Array (Nat × Operand)} {z : List PV} {sp : List (Nat × SV)} (ho : o.op = .buildSlice t len parts) (ht : P.underlying t = some (.slice el)) (hn : sizeT P el = some n) (hz : zeroT P el = some z)
    (hsp : cElems parts.toList = some sp) (hzn : z.length = n) (hn0 : n ≠ 0) (hlen : len * n ≤ 16777216) {es : List (List PV)} (hf : fillElems e n sp (List.replicate len z) = some es) :
    OpRuns P o a w (Quiet c μ w (if len = 0 then .z false else .sl n es)) := by
  obtain ⟨v, hv, hv1, hv2⟩ := zeroT_run (P := P) (w := w) (c := c) (μ := μ) hz
  obtain ⟨k1, k2⟩ := cElems_spec hsp
  have hl0 : ∀ cs, cs ∈ List.replicate len z → cs.length = n := fun cs h => by rw [(List.mem_replicate.1 h).2]; exact hzn
  obtain ⟨f1, f2, f3⟩ := fillElems_flat sp _ es hl0 hf
  rw [List.length_replicate] at f2
  have hzero : ∃ zs : Array Value, (len * n = 0 → zs = #[]) ∧ (len * n ≠ 0 → zs = v.cells) ∧ (len ≠ 0 → RdA c μ zs z) := by
    by_cases h : len * n = 0
    · exact ⟨#[], fun _ => rfl, fun h' => absurd h h', fun hl => absurd h (Nat.mul_ne_zero hl hn0)⟩
    · exact ⟨v.cells, fun h' => absurd h' h, fun _ => rfl, fun _ => RdA.of_list hv2⟩
  obtain ⟨zs, hz0, hz1, hzr⟩ := hzero
  have hbase : RdA c μ ((Array.range (len * n)).map (zs[· % zs.size]!)) (List.replicate len z).flatten := by
    by_cases h : len = 0
    · subst h; refine ⟨by simp, fun i x e => by simp at e⟩
    · have := replicate_flat_rd (n := len) (hzr h) (by rw [hzn]; exact hn0)
      rw [hzn] at this
      exact this
  obtain ⟨out, o1, o2⟩ := fill_run (place := fun i => some (i * n, n)) he parts.toList (sp.map fun (i, x) => (i * n, n, x)) _ _ es.flatten (fun m hm => by
    obtain ⟨i, x, y, h1, h2, h5⟩ := k2 m hm
    exact ⟨i, x, i * n, n, y, h1, by simp [h2], rfl, h5⟩) (by simpa using k1) hbase f3
  have hto : (parts.map fun (i, x) => (i, a.eval x)).toList = parts.toList.map fun (i, x) => (i, a.eval x) := by simp
  have hrun : (execOp a.eval o).run P w = .ok (.value (.slice (some ⟨w.heap.size, 0, none⟩) len len)) (w.alloc (.cells out el)) := by
    have hlt : ¬ (2 ^ 24 < len * n) := by omega
    by_cases h : len * n = 0
    · rw [hz0 h] at o1
      simp [execOp, ho, Instr.buildSlice, run_underlying ht, sizeT_run hn, h] at o1 ⊢
      rw [o1]
      simp [newRow]
    · rw [hz1 h] at o1
      have h1 : len ≠ 0 := fun h' => h (by rw [h', Nat.zero_mul])
      simp only [execOp, ho, Instr.buildSlice, Sem.run_bind, run_underlying ht, Result.andThen_ok, sizeT_run hn, hto]
      simp only [gt_iff_lt, hlt, if_false, h, Sem.run_bind, hv, Result.andThen_ok, Sem.run_pure, o1]
      simp [newRow]
  refine OpRuns.of_value hrun ?_
  have hb : Below w.heap.size w (w.alloc (.cells out el)) := (Below.refl _ _).alloc (Nat.le_refl _) _
  by_cases h : len = 0
  · rw [if_pos h]
    subst h
    exact ⟨cAt w.heap.size c _, cAt_le hI.cells, cAt_fresh _ _ _, hb, cAt_cells hI.cells hb, .z _⟩
  · rw [if_neg h]
    have hsz : out.size = es.length * n := by rw [o2.1, flat_len f1]
    have hcell : ∀ i, i < es.length * n → (w.alloc (.cells out el)).cell? ⟨w.heap.size, i, none⟩ = some (out.getD i undef) := by
      intro i hi
      rw [World.cell?_alloc_new]
      simp [hsz, hi]
    have hrd : ∀ i j x, cellAt es i j = some x → Rd c μ (out.getD (i * n + j) undef) x := by
      intro i j x hx
      have := cellAt_lt f1 hx
      refine o2.2 _ x ?_
      rw [flat_at f1 i j this.1 this.2.1]
      exact hx
    have := new_sl (c := c) (μ := μ) (w := w) (cells := out) (esz := n) (cap := len) (es := es) hI.cells hb hcell (by omega) f1 hrd
    rw [f2] at this
    exact this

end
end Go.Proofs.YtkccoijckckhmaaGreatDoor.Ev

namespace Go.Proofs.YtkccoijckckhmaaGreatDoor.Ev
open Go Go.RowKit

section
variable {P : Program} {T : Tab} {call : FuncId → List PV → Store → Option (PV × Store)} {rc : FuncId → Bool} {c : Cm} {μ : Mu} {a : Act} {e : Env} {w : World} {o : Oper} {ρ : Store} {B : Nat} {w0 : World} {ca : Cm}

theorem q_ld_ip (hI : Inv B w0 ca c μ ρ w) (he : EnvR c μ a e) {t : TypeId} {x : Operand} {sx : SV} {n : Nat} {g : Bool} (ho : o.op = .load t x) (hx : cSV x = some sx) (hg : aggT P t = some g) (hn : g = true → sizeT P t = some n) {cs : List PV} {p : PV}
    (hv : sx.ev e = .ip cs) (hp : joinCells n g cs = some p) : OpRuns P o a w (Quiet c μ w p) := by
  have h1 := cSV_rd he hx
  rw [hv] at h1
  obtain ⟨b, off, hu, hc⟩ := CellsAt.of_ip hI.cells h1
  obtain ⟨v, hv1, hv2⟩ := loadVar_run (P := P) hg hn (fun _ => trivial) hc hp
  refine q_of (v := v) hI ?_ hv2
  simp only [execOp, ho, Instr.loadAt, Instr.sureAddr, hu, Sem.run_bind, Sem.run_pure, Result.andThen_ok, hv1]

theorem q_ld_mp (hI : Inv B w0 ca c μ ρ w) (he : EnvR c μ a e) {t : TypeId} {x : Operand} {sx : SV} {n : Nat} {g : Bool} (ho : o.op = .load t x) (hx : cSV x = some sx) (hg : aggT P t = some g) (hn : g = true → sizeT P t = some n) {id esz i j : Nat} {k : Tok} {cs : List PV} {p : PV}
    (hv : sx.ev e = .mp id esz i j) (hk : ρ[id]? = some k) (hz : k.esz = esz) (hi : k.es[i]? = some cs) (hp : joinCells n g (cs.drop j) = some p) : OpRuns P o a w (Quiet c μ w p) := by
  have h1 := cSV_rd he hx
  rw [hv] at h1
  obtain ⟨b, N, hm, hu⟩ := rd_mp h1
  have hc := (CellsAt.of_tok hI hk hm hi).drop j
  rw [hz] at hc
  obtain ⟨v, hv1, hv2⟩ := loadVar_run (P := P) hg hn (fun _ => trivial) hc hp
  refine q_of (v := v) hI ?_ hv2
  simp only [execOp, ho, Instr.loadAt, Instr.sureAddr, hu, Sem.run_bind, Sem.run_pure, Result.andThen_ok, hv1]

theorem rd_ip_drop {cs : List PV} {b off k : Nat} (h : Rd c μ (.pointer (some ⟨b, off, none⟩)) (.ip cs)) : Rd c μ (.pointer (some ⟨b, off + k, none⟩)) (.ip (cs.drop k)) := by
  obtain ⟨b', off', f, hv, h1, h2⟩ := rd_ip h
  cases hv
  refine .ip _ _ _ (fun j => f (k + j)) (fun j x e => ?_) (fun j x e => ?_)
  · rw [List.getElem?_drop] at e
    have := h1 (k + j) x e
    rwa [← Nat.add_assoc] at this
  · rw [List.getElem?_drop] at e
    exact h2 (k + j) x e

theorem q_fad (hI : Inv B w0 ca c μ ρ w) (he : EnvR c μ a e) {t : TypeId} {f : Nat} {x : Operand} {sx : SV} {fs : Array Field} {fd : Field} (ho : o.op = .fieldAddr t x f) (hx : cSV x = some sx) (ht : P.underlying t = some (.struct fs)) (hf : fs[f]? = some fd) {n : Nat} (hn : sizeT P fd.type = some n) (hn0 : n ≠ 0) {p : PV}
    (hp : (∃ cs, sx.ev e = .ip cs ∧ p = .ip (cs.drop fd.offset)) ∨ (∃ id esz i j, sx.ev e = .mp id esz i j ∧ p = .mp id esz i (j + fd.offset))) : OpRuns P o a w (Quiet c μ w p) := by
  have h1 := cSV_rd he hx
  have hrun : ∀ b off, a.eval x = .pointer (some ⟨b, off, none⟩) → (execOp a.eval o).run P w = .ok (.value (.pointer (some ⟨b, off + fd.offset, none⟩))) w := by
    intro b off hu
    simp [execOp, ho, Instr.fieldAt, run_underlying ht, hf, Instr.sureAddr, hu, fieldPlace, addr_add, sizeT_run hn, hn0]
  rcases hp with ⟨cs, hv, rfl⟩ | ⟨id, esz, i, j, hv, rfl⟩
  · rw [hv] at h1
    obtain ⟨b, off, f, hu, _, _⟩ := rd_ip h1
    rw [hu] at h1
    exact q_of hI (hrun b off hu) (rd_ip_drop h1)
  · rw [hv] at h1
    obtain ⟨b, N, hm, hu⟩ := rd_mp h1
    refine q_of hI (hrun b _ hu) ?_
    rw [Nat.add_assoc]
    exact .mp _ _ _ _ b N hm


theorem asI_run {x : Operand} {sx : SV} (he : EnvR c μ a e) (hx : cSV x = some sx) {n : Int} (h : asI (sx.ev e) = some n) : ∃ k, a.eval x = .int k n := by
  have h1 := cSV_rd he hx
  cases hs : sx.ev e <;> rw [hs] at h <;> simp only [asI] at h <;> cases h
  rw [hs] at h1
  exact ⟨_, rd_int h1⟩

theorem q_iad (hI : Inv B w0 ca c μ ρ w) (he : EnvR c μ a e) {t el : TypeId} {x i : Operand} {sx si : SV} {esz : Nat} (ho : o.op = .indexAddr t x i) (hx : cSV x = some sx) (hi : cSV i = some si) (ht : P.underlying t = some (.slice el)) (hs : sizeT P el = some esz) {n : Int} (hn : asI (si.ev e) = some n) {p : PV}
    (hp : (∃ es cs, sx.ev e = .sl esz es ∧ 0 ≤ n ∧ es[n.toNat]? = some cs ∧ p = .ip cs) ∨ (∃ id off m, sx.ev e = .ms id esz off m ∧ 0 ≤ n ∧ n < m ∧ p = .mp id esz (off + n.toNat) 0)) : OpRuns P o a w (Quiet c μ w p) := by
  obtain ⟨k, hk⟩ := asI_run he hi hn
  have h1 := cSV_rd he hx
  have hrun : ∀ b off len cap, a.eval x = .slice (some ⟨b, off, none⟩) len cap → 0 ≤ n → n < len → (execOp a.eval o).run P w = .ok (.value (.pointer (some ⟨b, off + n.toNat * esz, none⟩))) w := by
    intro b off len cap hu h0 hl
    simp [execOp, ho, Instr.indexAt, asIntOf, hk, hu, run_underlying ht, h0, hl, sizeT_run hs, addr_add]
  rcases hp with ⟨es, cs, hv, h0, hc, rfl⟩ | ⟨id, off, m, hv, h0, hm, rfl⟩
  · rw [hv] at h1
    obtain ⟨b, off, cap, f, hu, hcap, hl, h3, h4⟩ := rd_sl h1
    have hlt : n.toNat < es.length := by
      rcases Nat.lt_or_ge n.toNat es.length with h' | h'
      · exact h'
      · simp [List.getElem?_eq_none h'] at hc
    refine q_of hI (hrun b off _ cap hu h0 (by omega)) ?_
    exact .ip _ _ _ (f n.toNat) (fun j x ex => h3 _ j x (by simp [cellAt, hc, ex])) (fun j x ex => h4 _ j x (by simp [cellAt, hc, ex]))
  · rw [hv] at h1
    obtain ⟨b, N, cap, hm', hu, _, _⟩ := rd_ms h1
    refine q_of hI (hrun b _ m cap hu h0 hm) ?_
    have := Rd.mp (c := c) (μ := μ) id esz (off + n.toNat) 0 b N hm'
    rwa [Nat.add_zero, Nat.add_mul] at this

theorem q_iada (hI : Inv B w0 ca c μ ρ w) (he : EnvR c μ a e) {t el : TypeId} {x i : Operand} {sx si : SV} {len esz : Nat} (ho : o.op = .indexAddr t x i) (hx : cSV x = some sx) (hi : cSV i = some si) (ht : P.underlying t = some (.array len el)) (hs : sizeT P el = some esz) {n : Int} (hn : asI (si.ev e) = some n) (h0 : 0 ≤ n) (hl : n < len) {p : PV}
    (hp : (∃ cs, sx.ev e = .ip cs ∧ p = .ip (cs.drop (n.toNat * esz))) ∨ (∃ id E i j, sx.ev e = .mp id E i j ∧ p = .mp id E i (j + n.toNat * esz))) : OpRuns P o a w (Quiet c μ w p) := by
  obtain ⟨k, hk⟩ := asI_run he hi hn
  have h1 := cSV_rd he hx
  have hrun : ∀ b off, a.eval x = .pointer (some ⟨b, off, none⟩) → (execOp a.eval o).run P w = .ok (.value (.pointer (some ⟨b, off + n.toNat * esz, none⟩))) w := by
    intro b off hu
    simp [execOp, ho, Instr.indexAt, Instr.sureAddr, asIntOf, hk, hu, run_underlying ht, h0, hl, sizeT_run hs, addr_add]
  rcases hp with ⟨cs, hv, rfl⟩ | ⟨id, E, i, j, hv, rfl⟩
  · rw [hv] at h1
    obtain ⟨b, off, f, hu, _, _⟩ := rd_ip h1
    rw [hu] at h1
    exact q_of hI (hrun b off hu) (rd_ip_drop h1)
  · rw [hv] at h1
    obtain ⟨b, N, hm, hu⟩ := rd_mp h1
    refine q_of hI (hrun b _ hu) ?_
    rw [Nat.add_assoc]
    exact .mp _ _ _ _ b N hm

theorem q_idxs (hI : Inv B w0 ca c μ ρ w) (he : EnvR c μ a e) {t : TypeId} {x i : Operand} {sx si : SV} (ho : o.op = .index t x i) (hx : cSV x = some sx) (hi : cSV i = some si) (ht : P.underlying t = some .string) {n : Int} (hn : asI (si.ev e) = some n) (h0 : 0 ≤ n) {s : ByteArray} {b : UInt8}
    (hv : sx.ev e = .str s) (hb : s[n.toNat]? = some b) : OpRuns P o a w (Quiet c μ w (.int .u8 b.toNat)) := by
  obtain ⟨k, hk⟩ := asI_run he hi hn
  have h1 := cSV_rd he hx
  rw [hv] at h1
  refine q_of (v := .int .u8 b.toNat) hI ?_ (.int _ _)
  simp [execOp, ho, Instr.index, asIntOf, hk, rd_str h1, run_underlying ht, h0, hb]

theorem q_idxa (hI : Inv B w0 ca c μ ρ w) (he : EnvR c μ a e) {t el : TypeId} {x i : Operand} {sx si : SV} {len esz : Nat} {g : Bool} (ho : o.op = .index t x i) (hx : cSV x = some sx) (hi : cSV i = some si) (ht : P.underlying t = some (.array len el)) (hs : sizeT P el = some esz) (hg : aggT P el = some g) {n : Int} (hn : asI (si.ev e) = some n) (h0 : 0 ≤ n) (hl : n < len)
    {cs : List PV} (hv : sx.ev e = .agg cs) (hcl : len * esz ≤ cs.length) {p : PV} (hp : joinCells esz g (cs.drop (n.toNat * esz)) = some p) : OpRuns P o a w (Quiet c μ w p) := by
  obtain ⟨k, hk⟩ := asI_run he hi hn
  have h1 := cSV_rd he hx
  rw [hv] at h1
  obtain ⟨us, hu, hsz, hr⟩ := rd_agg h1
  have hln : n.toNat < len := by omega
  have hle : n.toNat * esz + esz ≤ len * esz := by
    have : (n.toNat + 1) * esz ≤ len * esz := Nat.mul_le_mul_right _ hln
    rwa [Nat.succ_mul] at this
  cases g with
  | false =>
    simp only [joinCells] at hp
    rw [List.getElem?_drop, Nat.add_zero] at hp
    have hi' : n.toNat * esz < us.size := by
      rw [hsz]
      rcases Nat.lt_or_ge (n.toNat * esz) cs.length with h' | h'
      · exact h'
      · simp [List.getElem?_eq_none h'] at hp
    refine q_of (v := us.getD (n.toNat * esz) undef) hI ?_ (hr _ p hp)
    simp [execOp, ho, hu, Instr.index, asIntOf, hk, run_underlying ht, h0, hl, sizeT_run hs, part, isAgg_run hg, hi']
  | true =>
    simp only [joinCells] at hp
    split at hp
    · cases hp
      refine q_of (v := .agg (us.extract (n.toNat * esz) (n.toNat * esz + esz))) hI ?_ ?_
      · simp [execOp, ho, hu, Instr.index, asIntOf, hk, run_underlying ht, h0, hl, sizeT_run hs, part, isAgg_run hg]
      · refine .agg _ _ (by simp; omega) fun i y ey => ?_
        rw [List.getElem?_take] at ey
        split at ey
        · rename_i hi
          rw [List.getElem?_drop] at ey
          have := hr (n.toNat * esz + i) y ey
          have h2 : (us.extract (n.toNat * esz) (n.toNat * esz + esz)).getD i undef = us.getD (n.toNat * esz + i) undef := by
            rw [Array.getD_eq_getD_getElem?, Array.getD_eq_getD_getElem?, Array.getElem?_extract, if_pos (by omega)]
          rw [h2]
          exact this
        · cases ey
    · cases hp

theorem optI_run {x : Option Operand} {sx : Option SV} (he : EnvR c μ a e) (hx : cOpt x = some sx) {d n : Int} (h : optI e d sx = some n) :
    (x = none ∧ n = d) ∨ (∃ y k, x = some y ∧ a.eval y = .int k n) := by
  cases x with
  | none => cases hx; cases h; exact .inl ⟨rfl, rfl⟩
  | some y =>
    simp only [cOpt] at hx
    split at hx
    · rename_i s hs
      cases hx
      obtain ⟨k, hk⟩ := asI_run he hs h
      exact .inr ⟨y, k, rfl, hk⟩
    · cases hx

theorem sliceBound_run {k : IntKind} {n : Int} {y : Nat} {code : BoundsCode} (h0 : 0 ≤ n) (h1 : n ≤ y) : (Instr.sliceBound (.int k n) y code).run P w = .ok n.toNat w := by
  simp [Instr.sliceBound, asIntOf, h0, h1]

theorem sliceBounds_run {isS : Bool} {len cap : Nat} {lo hi : Option Operand} {slo shi : Option SV} (he : EnvR c μ a e) (hlo : cOpt lo = some slo) (hhi : cOpt hi = some shi) {l h : Int} (hl : optI e 0 slo = some l)
    (hh : optI e (len : Int) shi = some h) (h0 : 0 ≤ l) (h1 : l ≤ h) (h2 : h ≤ cap) : (Instr.sliceBounds isS len cap (lo.map a.eval) (hi.map a.eval) none).run P w = .ok (l.toNat, h.toNat, cap) w := by
  rcases optI_run he hlo hl with ⟨rfl, rfl⟩ | ⟨y, k, rfl, hy⟩ <;> rcases optI_run he hhi hh with ⟨rfl, rfl⟩ | ⟨z, k', rfl, hz⟩
  · simp [Instr.sliceBounds]
  · simp [Instr.sliceBounds, hz, sliceBound_run (P := P) (w := w) (k := k') (show 0 ≤ h from by omega) h2]
  · have := sliceBound_run (P := P) (w := w) (k := k) (y := len) (code := .sliceB) h0 (by omega)
    simp [Instr.sliceBounds, hy, this]
  · have := sliceBound_run (P := P) (w := w) (k := k) (y := h.toNat) (code := .sliceB) h0 (by omega)
    simp [Instr.sliceBounds, hy, hz, sliceBound_run (P := P) (w := w) (k := k') (show 0 ≤ h from by omega) h2, this]

theorem q_slcs (hI : Inv B w0 ca c μ ρ w) (he : EnvR c μ a e) {t : TypeId} {x : Operand} {sx : SV} {lo hi : Option Operand} {slo shi : Option SV} (ho : o.op = .slice t x lo hi none) (hx : cSV x = some sx) (ht : P.underlying t = some .string) (hlo : cOpt lo = some slo) (hhi : cOpt hi = some shi) {s : ByteArray} (hv : sx.ev e = .str s)
    {l h : Int} (hl : optI e 0 slo = some l) (hh : optI e (s.size : Int) shi = some h) (h0 : 0 ≤ l) (h1 : l ≤ h) (h2 : h ≤ s.size) : OpRuns P o a w (Quiet c μ w (.str (s.extract l.toNat h.toNat))) := by
  have e1 := cSV_rd he hx
  rw [hv] at e1
  refine q_of (v := .string (s.extract l.toNat h.toNat)) hI ?_ (.str _)
  simp [execOp, ho, Instr.sliceAt, Instr.slice, run_underlying ht, rd_str e1, sliceBounds_run (P := P) (w := w) (isS := false) (cap := s.size) he hlo hhi hl hh h0 h1 h2]

theorem q_slc (hI : Inv B w0 ca c μ ρ w) (he : EnvR c μ a e) {t el : TypeId} {x : Operand} {sx : SV} {lo hi : Option Operand} {slo shi : Option SV} {esz : Nat} (ho : o.op = .slice t x lo hi none) (hx : cSV x = some sx) (ht : P.underlying t = some (.slice el)) (hs : sizeT P el = some esz) (hlo : cOpt lo = some slo) (hhi : cOpt hi = some shi)
    {l : Int} (hl : optI e 0 slo = some l) {p : PV}
    (hp : (∃ b h, sx.ev e = .z b ∧ optI e 0 shi = some h ∧ l = 0 ∧ h = 0 ∧ p = .z b) ∨
      (∃ es h, sx.ev e = .sl esz es ∧ optI e (es.length : Int) shi = some h ∧ 0 ≤ l ∧ l ≤ h ∧ h ≤ es.length ∧ p = .sl esz ((es.drop l.toNat).take (h.toNat - l.toNat))) ∨
      (∃ id off n h, sx.ev e = .ms id esz off n ∧ optI e (n : Int) shi = some h ∧ 0 ≤ l ∧ l ≤ h ∧ h ≤ n ∧ (l = 0 ∨ l < n) ∧ p = .ms id esz (off + l.toNat) (h.toNat - l.toNat))) :
    OpRuns P o a w (Quiet c μ w p) := by
  have e1 := cSV_rd he hx
  have hrun : ∀ (ad : Option Addr) (len cap : Nat) (h : Int), a.eval x = .slice ad len cap → optI e (len : Int) shi = some h → 0 ≤ l → l ≤ h → h ≤ cap →
      (execOp a.eval o).run P w = .ok (.value (.slice (if cap = l.toNat then ad else ad.map (·.add (l.toNat * esz))) (h.toNat - l.toNat) (cap - l.toNat))) w := by
    intro ad len cap h hu hh h0 h1 h2
    simp [execOp, ho, Instr.sliceAt, Instr.slice, run_underlying ht, hu, sizeT_run hs, sliceBounds_run (P := P) (w := w) (isS := true) (cap := cap) he hlo hhi hl hh h0 h1 h2]
  rcases hp with ⟨b, h, hv, hh, rfl, rfl, rfl⟩ | ⟨es, h, hv, hh, h0, h1, h2, rfl⟩ | ⟨id, off, n, h, hv, hh, h0, h1, h2, h3, rfl⟩
  · rw [hv] at e1
    obtain ⟨ad, hu⟩ := rd_z e1
    have := hrun ad 0 0 0 hu hh (by omega) (by omega) (by omega)
    simp only [Int.toNat_zero, if_true, Nat.sub_zero] at this
    rw [hu] at e1
    exact q_of hI this e1
  · rw [hv] at e1
    obtain ⟨b, off, cap, f, hu, hcap, hlen, h3, h4⟩ := rd_sl e1
    have hr := hrun _ _ cap h hu hh h0 h1 (by omega)
    have hlenE : ((es.drop l.toNat).take (h.toNat - l.toNat)).length = h.toNat - l.toNat := by simp; omega
    have hlE : ∀ cs, cs ∈ (es.drop l.toNat).take (h.toNat - l.toNat) → cs.length = esz := fun cs hc => hlen cs (List.mem_of_mem_drop (List.mem_of_mem_take hc))
    have hcell : ∀ i j x, cellAt ((es.drop l.toNat).take (h.toNat - l.toNat)) i j = some x → cellAt es (l.toNat + i) j = some x := by
      intro i j x hx
      obtain ⟨cs, k1, k2⟩ := cellAt_some hx
      rw [List.getElem?_take] at k1
      split at k1
      · rw [List.getElem?_drop] at k1
        simp [cellAt, k1, k2]
      · cases k1
    by_cases hc : cap = l.toNat
    · rw [if_pos hc] at hr
      refine q_of hI hr ?_
      have : (es.drop l.toNat).take (h.toNat - l.toNat) = [] := by
        apply List.eq_nil_of_length_eq_zero
        rw [hlenE]; omega
      rw [this, show h.toNat - l.toNat = ([] : List (List PV)).length from by simp; omega]
      exact .sl _ _ _ _ [] (fun _ _ => undef) (by simp) (fun cs h => by simp at h) (fun i j x h => by simp [cellAt] at h) (fun i j x h => by simp [cellAt] at h)
    · rw [if_neg hc] at hr
      refine q_of hI hr ?_
      simp only [Option.map_some, addr_add]
      have := Rd.sl (c := c) (μ := μ) b (off + l.toNat * esz) (cap - l.toNat) esz ((es.drop l.toNat).take (h.toNat - l.toNat)) (fun i j => f (l.toNat + i) j) (by rw [hlenE]; omega) hlE
        (fun i j x hx => by
          have := h3 _ j x (hcell i j x hx)
          rw [Nat.add_mul] at this
          rw [← this]
          congr 1
          omega) (fun i j x hx => h4 _ j x (hcell i j x hx))
      rw [hlenE] at this
      exact this
  · rw [hv] at e1
    obtain ⟨b, N, cap, hm, hu, hn, hN⟩ := rd_ms e1
    have hr := hrun _ _ cap h hu hh h0 h1 (by omega)
    by_cases hc : cap = l.toNat
    · rw [if_pos hc] at hr
      have hl0 : l = 0 := by rcases h3 with h3 | h3 <;> omega
      refine q_of hI hr ?_
      have h00 : l.toNat = 0 := by omega
      rw [h00, Nat.add_zero, Nat.sub_zero, Nat.sub_zero]
      exact .ms id esz off _ b N cap hm (by omega) hN
    · rw [if_neg hc] at hr
      refine q_of hI hr ?_
      simp only [Option.map_some, addr_add]
      rw [← Nat.add_mul]
      exact .ms id esz (off + l.toNat) _ b N _ hm (by omega) (by
        have : off + l.toNat + (cap - l.toNat) = off + cap := by omega
        rw [this]; exact hN)

theorem q_slc0 (hI : Inv B w0 ca c μ ρ w) (he : EnvR c μ a e) {t el : TypeId} {x : Operand} {sx : SV} {lo : Option Operand} {esz : Nat} (ho : o.op = .slice t x lo (some (.const (.int .i64 0))) (some (.const (.int .i64 0)))) (hlo : lo = none ∨ lo = some (.const (.int .i64 0))) (hx : cSV x = some sx) (ht : P.underlying t = some (.slice el)) (hs : sizeT P el = some esz) {p : PV}
    (hp : (∃ b, sx.ev e = .z b ∧ p = .z b) ∨ (∃ es n, sx.ev e = .sl n es ∧ p = .z false) ∨ (∃ id n off m, sx.ev e = .ms id n off m ∧ p = .z false)) : OpRuns P o a w (Quiet c μ w p) := by
  have e1 := cSV_rd he hx
  have hrun : ∀ (ad : Option Addr) (len cap : Nat), a.eval x = .slice ad len cap → (execOp a.eval o).run P w = .ok (.value (.slice ad 0 0)) w := by
    intro ad len cap hu
    have h0 : a.eval (.const (.int .i64 0)) = .int .i64 0 := rfl
    rcases hlo with rfl | rfl <;> simp [execOp, ho, Instr.sliceAt, Instr.slice, Instr.sliceBounds, Instr.sliceBound, asIntOf, h0, run_underlying ht, hu, sizeT_run hs]
  rcases hp with ⟨b, hv, rfl⟩ | ⟨es, n, hv, rfl⟩ | ⟨id, n, off, m, hv, rfl⟩
  · rw [hv] at e1
    obtain ⟨ad, hu⟩ := rd_z e1
    rw [hu] at e1
    exact q_of hI (hrun _ _ _ hu) e1
  · rw [hv] at e1
    obtain ⟨b, off, cap, f, hu, _⟩ := rd_sl e1
    exact q_of hI (hrun _ _ _ hu) (.z _)
  · rw [hv] at e1
    obtain ⟨b, N, cap, _, hu, _⟩ := rd_ms e1
    exact q_of hI (hrun _ _ _ hu) (.z _)

theorem q_mkf (hI : Inv B w0 ca c μ ρ w) (he : EnvR c μ a e) {f : FuncId} {first caps : Array Operand} {scs : List SV} (ho : o.op = .makeFunc (.func f) first caps) (hf : first.size = 0) (hc : cSVs caps.toList = some scs) : OpRuns P o a w (Quiet c μ w (.fn f (scs.map (SV.ev e)))) := by
  have hr := cSVs_rd he hc
  have hf' : first = #[] := Array.eq_empty_of_size_eq_zero hf
  subst hf'
  refine q_of (v := .func (.func f) #[] (caps.map a.eval)) hI ?_ ?_
  · simp [execOp, ho, Instr.makeFunc]
  · have := RdA.of_list (vs := caps.map a.eval) (by simpa using hr)
    exact .fn f _ _ this.1 this.2

theorem q_nck (hI : Inv B w0 ca c μ ρ w) (he : EnvR c μ a e) {x : Operand} {sx : SV} (ho : o.op = .nilCheck x) (hx : cSV x = some sx) {p : PV} (hp : sx.ev e = p) (hk : (∃ id esz i j, p = .mp id esz i j) ∨ (∃ cs, p = .ip cs) ∨ (∃ f cs, p = .fn f cs)) : OpRuns P o a w (Quiet c μ w p) := by
  have e1 := cSV_rd he hx
  rw [hp] at e1
  rcases hk with ⟨id, esz, i, j, rfl⟩ | ⟨cs, rfl⟩ | ⟨f, cs, rfl⟩
  · obtain ⟨b, N, _, hu⟩ := rd_mp e1
    exact q_of hI (v := a.eval x) (by simp [execOp, ho, hu]) e1
  · obtain ⟨b, off, f, hu, _⟩ := rd_ip e1
    exact q_of hI (v := a.eval x) (by simp [execOp, ho, hu]) e1
  · obtain ⟨vs, hu, _⟩ := rd_fn e1
    exact q_of hI (v := a.eval x) (by simp [execOp, ho, hu]) e1

theorem q_mki (hI : Inv B w0 ca c μ ρ w) {t : TypeId} {x : Operand} {d : TypeDesc} (ho : o.op = .makeInterface t x) (ht : P.underlying t = some d) (hd : ∀ ms, d ≠ .interface ms) : OpRuns P o a w (Quiet c μ w .anyI) := by
  refine q_of (v := .iface t (a.eval x)) hI ?_ (.anyI _ _)
  have : P.concrete t = true := by
    unfold Program.concrete
    rw [ht]
    cases d <;> first | rfl | exact absurd rfl (hd _)
  simp [execOp, ho, run_makeInterface w t _ this]


theorem q_len (hI : Inv B w0 ca c μ ρ w) (he : EnvR c μ a e) {cl : Call} {x : Operand} {sx : SV} {t : TypeId} (ho : o.op = .call cl) (hcal : cl.callee = .builtin .len) (hargs : cl.args.toList = [x]) (hts : cl.argTypes.toList = [t]) (hx : cSV x = some sx)
    (ht : P.underlying t = some .string ∧ (∃ s, sx.ev e = .str s) ∨ (∃ el, P.underlying t = some (.slice el)) ∧ ∀ s, sx.ev e ≠ .str s) {n : Nat} (hn : (∃ s, sx.ev e = .str s ∧ n = s.size) ∨ (∃ b, sx.ev e = .z b ∧ n = 0) ∨ (∃ z es, sx.ev e = .sl z es ∧ n = es.length) ∨ (∃ id z off, sx.ev e = .ms id z off n)) :
    OpRuns P o a w (Quiet c μ w (.int .i64 n)) := by
  have e1 := cSV_rd he hx
  have ha : cl.args = #[x] := by apply Array.ext'; simpa using hargs
  have hty : cl.argTypes = #[t] := by apply Array.ext'; simpa using hts
  refine q_of (v := .int .i64 n) hI ?_ (.int _ _)
  have hfin : ∀ v : Value, a.eval x = v → (Builtin.len_ #[t] o.type #[v]).run P w = .ok (.int .i64 n) w → (execOp a.eval o).run P w = .ok (.value (.int .i64 n)) w := by
    intro v hv hr
    simp [execOp, ho, resolve, hcal, ha, hty, hv, invoke, builtin, hr]
  rcases hn with ⟨s, hv, rfl⟩ | ⟨b, hv, rfl⟩ | ⟨z, es, hv, rfl⟩ | ⟨id, z, off, hv⟩ <;> rw [hv] at e1
  · rcases ht with ⟨ht, _⟩ | ⟨_, h⟩
    · exact hfin _ (rd_str e1) (by simp [Builtin.len_, run_underlying ht, goInt])
    · exact absurd hv (h s)
  all_goals
    rcases ht with ⟨_, s, hs⟩ | ⟨⟨el, ht⟩, _⟩
    · rw [hv] at hs; cases hs
  · obtain ⟨ad, hu⟩ := rd_z e1
    exact hfin _ hu (by simp [Builtin.len_, run_underlying ht, goInt])
  · obtain ⟨b, off, cap, f, hu, _⟩ := rd_sl e1
    exact hfin _ hu (by simp [Builtin.len_, run_underlying ht, goInt])
  · obtain ⟨b, N, cap, _, hu, _⟩ := rd_ms e1
    exact hfin _ hu (by simp [Builtin.len_, run_underlying ht, goInt])

theorem mmGo_run {isMax : Bool} {k : IntKind} : ∀ {ps : List PV} {vs : List Value} {x : Int} {p : PV}, RdL c μ vs ps → mmGo isMax k x ps = some p → ∃ n, p = .int k n ∧ (vs.foldlM (bif isMax then Builtin.max2 else Builtin.min2) (.int k x)).run P w = .ok (.int k n) w
  | [], [], x, p, _, h => by cases h; exact ⟨x, rfl, rfl⟩
  | q :: qs, v :: vs, x, p, hr, h => by
    cases q with
    | int k' y =>
      simp only [mmGo] at h
      split at h
      · rename_i hk
        subst hk
        obtain ⟨n, h1, h2⟩ := mmGo_run hr.2 h
        refine ⟨n, h1, ?_⟩
        rw [rd_int hr.1, List.foldlM_cons, Sem.run_bind]
        cases isMax
        · simp only [cond_false, Builtin.min2, Sem.run_pure, Result.andThen_ok] at h2 ⊢
          exact h2
        · simp only [cond_true, Builtin.max2, Sem.run_pure, Result.andThen_ok] at h2 ⊢
          exact h2
      · cases h
    | _ => cases h
  | [], _ :: _, _, _, hr, _ => hr.elim
  | _ :: _, [], _, _, hr, _ => hr.elim

theorem q_mm (hI : Inv B w0 ca c μ ρ w) (he : EnvR c μ a e) {cl : Call} {isMax : Bool} {sxs : List SV} (ho : o.op = .call cl) (hcal : cl.callee = .builtin (bif isMax then .max else .min)) (hx : cSVs cl.args.toList = some sxs) {p : PV} (hp : mmInt isMax (sxs.map (SV.ev e)) = some p) : OpRuns P o a w (Quiet c μ w p) := by
  have hr := cSVs_rd he hx
  cases hps : sxs.map (SV.ev e) with
  | nil => rw [hps] at hp; cases hp
  | cons q qs =>
    rw [hps] at hp hr
    cases hvs : cl.args.toList.map a.eval with
    | nil => rw [hvs] at hr; exact hr.elim
    | cons v vs =>
      rw [hvs] at hr
      cases q with
      | int k x =>
        obtain ⟨n, rfl, h2⟩ := mmGo_run (P := P) (w := w) hr.2 hp
        have hv := rd_int hr.1
        have hto : (cl.args.map a.eval).toList = .int k x :: vs := by rw [← hv]; simpa using hvs
        refine q_of (v := .int k n) hI ?_ (.int _ _)
        cases isMax
        · simp only [cond_false] at hcal h2
          simp [execOp, ho, resolve, hcal, invoke, builtin, Builtin.min_, hto, h2, -Array.toList_map]
        · simp only [cond_true] at hcal h2
          simp [execOp, ho, resolve, hcal, invoke, builtin, Builtin.max_, hto, h2, -Array.toList_map]
      | _ => cases hp

theorem bytesOfEs_len : ∀ {es : List (List PV)} {l : List UInt8}, bytesOfEs es = some l → es.length = l.length ∧ ∀ (i : Nat) b, l[i]? = some b → cellAt es i 0 = some (.int .u8 b.toNat)
  | [], l, h => by cases h; exact ⟨rfl, fun i b h => by simp at h⟩
  | cs :: es, l, h => by
    unfold bytesOfEs at h
    split at h
    · cases h; rename_i h'; cases h'
    · rename_i n es' h'
      cases h'
      split at h
      · rename_i hn
        cases hb : bytesOfEs es with
        | none => rw [hb] at h; cases h
        | some l' =>
          rw [hb] at h
          cases h
          obtain ⟨h1, h2⟩ := bytesOfEs_len hb
          refine ⟨by simp [h1], fun i b hi => ?_⟩
          cases i with
          | zero =>
            simp at hi
            subst hi
            simp only [cellAt, List.getElem?_cons_zero, Option.bind_some]
            congr 2
            simp
            omega
          | succ i =>
            have := h2 i b (by simpa using hi)
            simpa [cellAt] using this
      · cases h
    · cases h

theorem q_b2s (hI : Inv B w0 ca c μ ρ w) (he : EnvR c μ a e) {s d el : TypeId} {x : Operand} {sx : SV} (ho : o.op = .convert s d x) (hx : cSV x = some sx) (hs : P.underlying s = some (.slice el)) (hel : P.underlying el = some (.int .u8)) (hd : P.underlying d = some .string) {p : PV}
    (hp : (∃ b, sx.ev e = .z b ∧ p = .str .empty) ∨ (∃ es l, sx.ev e = .sl 1 es ∧ bytesOfEs es = some l ∧ p = .str ⟨l.toArray⟩) ∨
      (∃ id off n k l, sx.ev e = .ms id 1 off n ∧ ρ[id]? = some k ∧ k.esz = 1 ∧ off + n ≤ k.es.length ∧ bytesOfEs ((k.es.drop off).take n) = some l ∧ p = .str ⟨l.toArray⟩)) : OpRuns P o a w (Quiet c μ w p) := by
  have e1 := cSV_rd he hx
  have hback : ∀ (b off cap : Nat) (l : List UInt8), a.eval x = .slice (some ⟨b, off, none⟩) l.length cap → (∀ (j : Nat) u, l[j]? = some u → w.cell? ⟨b, off + j, none⟩ = some (.int .u8 u.toNat)) → (execOp a.eval o).run P w = .ok (.value (.string ⟨l.toArray⟩)) w := by
    intro b off cap l hu hc
    have := run_convert_bytes_back (P := P) w s d el ⟨b, off, none⟩ cap l hs hel hd (fun j hj => by rw [addr_add]; exact hc j _ (List.getElem?_eq_getElem hj))
    simp [execOp, ho, hu, this]
  rcases hp with ⟨b, hv, rfl⟩ | ⟨es, l, hv, hl, rfl⟩ | ⟨id, off, n, k, l, hv, hk, hz, hle, hl, rfl⟩ <;> rw [hv] at e1
  · obtain ⟨ad, hu⟩ := rd_z e1
    refine q_of (v := .string .empty) hI ?_ (.str _)
    cases ad with
    | none => simp [execOp, ho, hu, run_convert_bytes_string w s d el none 0 0 hs hel hd, Conv.bytesToString]
    | some ad =>
      have := run_convert_bytes_back (P := P) w s d el ad 0 [] hs hel hd (fun j hj => by simp at hj)
      simp only [List.length_nil] at this
      simp [execOp, ho, hu, this]
      rfl
  · obtain ⟨b, off, cap, f, hu, hcap, hlen, h3, h4⟩ := rd_sl e1
    obtain ⟨l1, l2⟩ := bytesOfEs_len hl
    rw [l1] at hu
    refine q_of (v := .string ⟨l.toArray⟩) hI (hback b off cap l hu fun j u hj => ?_) (.str _)
    have hc := l2 j u hj
    have := hI.cells _ _ _ (h3 j 0 _ hc)
    rw [rd_int (h4 j 0 _ hc)] at this
    simpa using this
  · obtain ⟨b, N, cap, hm, hu, hn, hN⟩ := rd_ms e1
    obtain ⟨l1, l2⟩ := bytesOfEs_len hl
    have hln : l.length = n := by rw [← l1]; simp; omega
    rw [← hln] at hu
    refine q_of (v := .string ⟨l.toArray⟩) hI (hback b _ cap l hu fun j u hj => ?_) (.str _)
    have hc := l2 j u hj
    obtain ⟨cs, k1, k2⟩ := cellAt_some hc
    have hjn : j < n := by
      rcases Nat.lt_or_ge j n with h' | h'
      · exact h'
      · rw [List.getElem?_eq_none (by omega)] at hj; cases hj
    rw [List.getElem?_take, if_pos hjn, List.getElem?_drop] at k1
    obtain ⟨v, v1, v2⟩ := CellsAt.of_tok hI hk hm k1 0 _ k2
    rw [rd_int v2, hz] at v1
    rw [← v1]
    congr 2
    omega

theorem q_s2b (hI : Inv B w0 ca c μ ρ w) (he : EnvR c μ a e) {s d el : TypeId} {x : Operand} {sx : SV} (ho : o.op = .convert s d x) (hx : cSV x = some sx) (hs : P.underlying s = some .string) (hd : P.underlying d = some (.slice el)) (hel : P.underlying el = some (.int .u8)) {z : ByteArray} (hv : sx.ev e = .str z) :
    OpRuns P o a w (Quiet c μ w (.sl 1 (z.data.toList.map fun b => [.int .u8 b.toNat]))) := by
  have e1 := cSV_rd he hx
  rw [hv] at e1
  have hr := Lib.run_convert_string_bytes (P := P) w s d el z hs hd hel
  have hb : Below w.heap.size w (Lib.bytesWorld w el z) := by
    refine ⟨?_, ?_, ?_, by rw [Lib.bytesWorld_size]; omega, fun k hk => Lib.bytesWorld_at_old w el z k hk⟩ <;> simp [Lib.bytesWorld, World.freeze, World.alloc, World.drew, -World.alloc_eq, -World.drew_eq]
  refine OpRuns.of_value (by simp [execOp, ho, rd_str e1, hr]; exact ⟨rfl, rfl⟩) ?_
  have hlen : (z.data.toList.map fun b => [PV.int .u8 b.toNat]).length = z.size := by simp
  have hl : ∀ cs, cs ∈ (z.data.toList.map fun b => [PV.int .u8 b.toNat]) → cs.length = 1 := by
    intro cs h
    obtain ⟨b, _, rfl⟩ := List.mem_map.1 h
    rfl
  have := new_sl (c := c) (μ := μ) (w := w) (w1 := Lib.bytesWorld w el z) (cells := (z.data.map fun b => Value.int .u8 b.toNat)) (esz := 1) (cap := grownCap w z.size 0 el) (es := z.data.toList.map fun b => [PV.int .u8 b.toNat]) hI.cells hb (fun i hi => by
      rw [hlen, Nat.mul_one] at hi
      rw [Lib.bytesWorld_cell w el z i hi]
      have hi' : i < z.data.size := hi
      obtain ⟨b, hb'⟩ : ∃ b, z.data[i]? = some b := ⟨_, Array.getElem?_eq_getElem hi'⟩
      simp [List.getD, hb']) (by rw [hlen]; exact Nat.le_add_right _ _) hl (fun i j x hx => by
      obtain ⟨cs, k1, k2⟩ := cellAt_some hx
      rw [List.getElem?_map] at k1
      cases hzi : z.data.toList[i]? with
      | none => simp [hzi] at k1
      | some b =>
        rw [hzi] at k1
        cases k1
        cases j with
        | zero =>
          cases k2
          have hzi' : z.data[i]? = some b := by simpa using hzi
          simp [hzi']
          exact .int _ _
        | succ j => simp at k2)
  rw [hlen] at this
  exact this

end
end Go.Proofs.YtkccoijckckhmaaGreatDoor.Ev

namespace Go.Proofs.YtkccoijckckhmaaGreatDoor.Ev
open Go Go.RowKit

theorem flat1_rd {c c' : Cm} {μ μ' : Mu} {v : Value} {p : PV} (h : Rd c μ v p) (hf : flat1 p = true) : Rd c' μ' v p := by
  cases h <;> first | (constructor; done) | cases hf

theorem flat_rd {c c' : Cm} {μ μ' : Mu} {v : Value} {p : PV} (h : Rd c μ v p) (hf : flat p = true) : Rd c' μ' v p := by
  cases p with
  | agg cs =>
    obtain ⟨vs, rfl, h1, h2⟩ := rd_agg h
    refine .agg _ _ h1 fun i x e => flat1_rd (h2 i x e) ?_
    simp only [flat, List.all_eq_true] at hf
    exact hf x (List.mem_of_getElem? e)
  | tup ps =>
    obtain ⟨vs, rfl, h1, h2⟩ := rd_tup h
    refine .tup _ _ h1 fun i x e => ?_
    simp only [flat, List.all_eq_true] at hf
    have hx := hf x (List.mem_of_getElem? e)
    have hr := h2 i x e
    cases x with
    | agg cs =>
      obtain ⟨us, hu, k1, k2⟩ := rd_agg hr
      rw [hu]
      refine .agg _ _ k1 fun j y ey => flat1_rd (k2 j y ey) ?_
      simp only [List.all_eq_true] at hx
      exact hx y (List.mem_of_getElem? ey)
    | _ => exact flat1_rd hr hx
  | _ => exact flat1_rd h hf

section
variable {P : Program} {T : Tab} {call : FuncId → List PV → Store → Option (PV × Store)} {rc : FuncId → Bool} {c : Cm} {μ : Mu} {a : Act} {e : Env} {w : World} {o : Oper} {ρ : Store} {B : Nat} {w0 : World} {ca : Cm}

theorem call_runs {cl : Call} {f : Operand} {g : FuncId} {caps : Array Value} {R : Value → World → Prop} (ho : o.op = .call cl) (hcal : cl.callee = .value f) (hf : a.eval f = .func (.func g) #[] caps) (hen : Enterable P g)
    (hC : Calls P g (cl.args.map a.eval ++ caps) w (fun e w' => ∃ v, e = .returned v ∧ R v w')) : OpRuns P o a w R := by
  obtain ⟨fn, h1, h2, h3⟩ := hen
  have h2' : fn.name ≠ "runtime.NumGoroutine" := by simpa using h2
  have h3' : fn.body ≠ none := by intro h; rw [h] at h3; cases h3
  have hrun : (execOp a.eval o).run P w = .ok (.enter g (cl.args.map a.eval ++ caps)) w := by
    simp [execOp, ho, resolve, hcal, Deferred.ofValue, hf, invoke, callFunc, h1, h2', h3']
  intro next Q hn
  unfold Oper.wp
  rw [hrun]
  refine Calls.mono hC ?_
  rintro e w' ⟨v, rfl, hR⟩
  exact hn v w' hR

theorem snap_id : ∀ {l l' : List PV}, hasMs l = false → snapAll ρ l = some l' → l' = l
  | [], l', _, h => by cases h; rfl
  | v :: vs, l', hm, h => by
    simp only [snapAll] at h
    split at h
    · rename_i x xs h1 h2
      cases h
      cases v with
      | ms => cases hm
      | _ => simp only [snap] at h1; cases h1; rw [snap_id (by simpa [hasMs] using hm) h2]
    · cases h

theorem snap_rd (hI : Inv B w0 ca c μ ρ w) {v : Value} {p q : PV} (h : Rd c μ v p) (hs : snap ρ p = some q) (hp : Pure q) : Rd (fun b o => w.cell? ⟨b, o, none⟩) noMu v q := by
  have hle : LeC c (fun b o => w.cell? ⟨b, o, none⟩) := fun b o u hh => hI.cells b o u hh
  cases p with
  | ms id esz off n =>
    simp only [snap] at hs
    split at hs
    · rename_i k hk
      split at hs
      · rename_i hc
        obtain ⟨rfl, hn⟩ := hc
        cases hs
        obtain ⟨b, N, cap, hm, rfl, h1, h2⟩ := rd_ms h
        have hlen : ((k.es.drop off).take n).length = n := by simp; omega
        have hdead : k.live = true ∨ k.es = [] := by
          cases hl : k.live with
          | true => exact .inl rfl
          | false => exact .inr (hI.dead id k hk hl)
        have hl : ∀ cs, cs ∈ (k.es.drop off).take n → cs.length = k.esz := by
          intro cs hcs
          have hin := List.mem_of_mem_drop (List.mem_of_mem_take hcs)
          rcases hdead with hl | hl
          · exact (hI.tok id k b N hk hm hl).2.1 cs hin
          · rw [hl] at hin; cases hin
        have hcell : ∀ i j x, cellAt ((k.es.drop off).take n) i j = some x → ∃ u, w.cell? ⟨b, off * k.esz + i * k.esz + j, none⟩ = some u ∧ Rd c μ u x := by
          intro i j x hx
          obtain ⟨cs, k1, k2⟩ := cellAt_some hx
          rw [List.getElem?_take] at k1
          split at k1
          · rw [List.getElem?_drop] at k1
            have := CellsAt.of_tok hI hk hm k1 j x k2
            rwa [Nat.add_mul] at this
          · cases k1
        let f : Nat → Nat → Value := fun i j => (w.cell? ⟨b, off * k.esz + i * k.esz + j, none⟩).getD undef
        have hpure : ∀ i j x, cellAt ((k.es.drop off).take n) i j = some x → Pure x := by
          intro i j x hx
          obtain ⟨cs, k1, k2⟩ := cellAt_some hx
          cases hp with
          | sl _ _ hp => exact hp cs (List.mem_of_getElem? k1) x (List.mem_of_getElem? k2)
        have := Rd.sl (c := fun b o => w.cell? ⟨b, o, none⟩) (μ := noMu) b (off * k.esz) cap k.esz ((k.es.drop off).take n) f (by omega) hl
          (fun i j x hx => by obtain ⟨u, h1, h2⟩ := hcell i j x hx; show w.cell? _ = some ((w.cell? _).getD undef); rw [h1]; rfl)
          (fun i j x hx => by
            obtain ⟨u, h1, h2⟩ := hcell i j x hx
            have : f i j = u := by show (w.cell? _).getD undef = u; rw [h1]; rfl
            rw [this]
            exact (h2.pure (hpure i j x hx)).mono hle (LeM.refl _))
        rw [hlen] at this
        exact this
      · cases hs
    · cases hs
  | _ => simp only [snap] at hs; cases hs; exact (h.pure hp).mono hle (LeM.refl _)

theorem snapAll_rd (hI : Inv B w0 ca c μ ρ w) : ∀ {vs : List Value} {ps qs : List PV}, RdL c μ vs ps → snapAll ρ ps = some qs → (∀ q, q ∈ qs → Pure q) → RdL (fun b o => w.cell? ⟨b, o, none⟩) noMu vs qs
  | [], [], qs, _, h, _ => by cases h; trivial
  | v :: vs, p :: ps, qs, hr, h, hp => by
    simp only [snapAll] at h
    split at h
    · rename_i x xs h1 h2
      cases h
      exact ⟨snap_rd hI hr.1 h1 (hp x (List.mem_cons_self ..)), snapAll_rd hI hr.2 h2 fun q hq => hp q (List.mem_cons_of_mem _ hq)⟩
    · cases h
  | [], _ :: _, _, hr, _, _ => hr.elim
  | _ :: _, [], _, hr, _, _ => hr.elim

theorem RdL.pure : ∀ {vs : List Value} {ps : List PV}, RdL c μ vs ps → (∀ p, p ∈ ps → Pure p) → RdL c noMu vs ps
  | [], [], _, _ => trivial
  | v :: vs, p :: ps, h, hp => ⟨h.1.pure (hp p (List.mem_cons_self ..)), RdL.pure h.2 fun q hq => hp q (List.mem_cons_of_mem _ hq)⟩
  | [], _ :: _, h, _ => h.elim
  | _ :: _, [], h, _ => h.elim

theorem q_callR (hT : ∀ f g, T.pure f = some g → Contract P f g) (hI : Inv B w0 ca c μ ρ w) (he : EnvR c μ a e) {cl : Call} {f : Operand} {sf : SV} {sargs : List SV} (ho : o.op = .call cl) (hcal : cl.callee = .value f) (hf : cSV f = some sf) (hargs : cSVs cl.args.toList = some sargs)
    {g : FuncId} {caps : List PV} (hv : sf.ev e = .fn g caps) {p : List PV → Option PV} (hp : T.pure g = some p) {vs : List PV} (hs : snapAll ρ (sargs.map (SV.ev e) ++ caps) = some vs) {r : PV} (hr : p vs = some r) (hfl : (hasMs (sargs.map (SV.ev e) ++ caps) && !flat r) = false) :
    OpRuns P o a w (Quiet c μ w r) := by
  have hC := hT g p hp
  have e1 := cSV_rd he hf
  rw [hv] at e1
  obtain ⟨cv, hcv, k1, k2⟩ := rd_fn e1
  have hcr : RdL c μ cv.toList caps := RdA.toList ⟨k1, k2⟩
  have har := (cSVs_rd he hargs).append hcr
  have hto : (cl.args.toList.map a.eval ++ cv.toList).toArray = cl.args.map a.eval ++ cv := by
    apply Array.ext'; simp
  refine call_runs ho hcal hcv hC.enter ?_
  rw [← hto]
  have hpure := hC.pure vs r hr
  cases hm : hasMs (sargs.map (SV.ev e) ++ caps) with
  | false =>
    have := snap_id hm hs
    subst this
    refine Calls.mono (hC.calls _ r hr w c _ hI.cells hI.laid (har.pure hpure)) ?_
    rintro e' w' ⟨v, rfl, h1, h2⟩
    exact ⟨v, rfl, cAt w.heap.size c w', cAt_le hI.cells, cAt_fresh _ _ _, h2, cAt_cells hI.cells h2, h1.mono (LeC.refl _) (LeM.none _)⟩
  | true =>
    rw [hm] at hfl
    have hflat : flat r = true := by simpa using hfl
    have := snapAll_rd hI har hs hpure
    refine Calls.mono (hC.calls _ r hr w _ _ (fun _ _ _ h => h) hI.laid this) ?_
    rintro e' w' ⟨v, rfl, h1, h2⟩
    refine ⟨v, rfl, c, LeC.refl _, fun _ _ _ => rfl, h2, fun b o u hb => ?_, flat_rd h1 hflat⟩
    have hc := hI.cells b o u hb
    rw [h2.cell (p := ⟨b, o, none⟩) (World.block_lt_of_cell? w _ hc)]
    exact hc

end

/-- All quiet operations. -/
theorem quiet_sound {P : Program} {T : Tab} {call : FuncId → List PV → Store → Option (PV × Store)} {rc : FuncId → Bool} {c : Cm} {μ : Mu} {a : Act} {e : Env} {w : World} {o : Oper} {ρ ρ' : Store} {B : Nat} {w0 : World} {ca : Cm} {so : SOp} {p : PV}
    (hT : ∀ f g, T.pure f = some g → Contract P f g) (hc : cOp P rc o.op = some so) (hcl : so.cl = .P ∨ so.cl = .R) (hI : Inv B w0 ca c μ ρ w) (he : EnvR c μ a e) (hev : evOp T call e ρ so = some (p, ρ')) : ρ' = ρ ∧ OpRuns P o a w (Quiet c μ w p) := by
  cases ho : o.op with
  | move x =>
    rw [ho] at hc
    simp only [cOp, Option.map_eq_some_iff] at hc
    obtain ⟨sx, hx, rfl⟩ := hc
    cases hev
    exact ⟨rfl, q_mv hI he (.inl ho) hx⟩
  | assign x =>
    rw [ho] at hc
    simp only [cOp, Option.map_eq_some_iff] at hc
    obtain ⟨sx, hx, rfl⟩ := hc
    cases hev
    exact ⟨rfl, q_mv hI he (.inr ho) hx⟩
  | pick x y z =>
    rw [ho] at hc
    simp only [cOp] at hc
    split at hc
    · rename_i sx sy sz hx hy hz
      cases hc
      simp only [evOp] at hev
      split at hev
      · rename_i t ht
        cases hev
        exact ⟨rfl, q_pick hI he ho hx hy hz ht⟩
      · cases hev
    · cases hc
  | binOp op t x y u =>
    rw [ho] at hc
    simp only [cOp, cBin] at hc
    split at hc
    · rename_i sx sy hx hy
      split at hc
      · cases hc
        simp only [evOp] at hev
        split at hev
        · rename_i v hv; cases hev; exact ⟨rfl, q_bin hI he ho hx hy hv⟩
        · cases hev
      · cases hc
        simp only [evOp] at hev
        split at hev
        · rename_i v hv; cases hev; exact ⟨rfl, q_bin hI he ho hx hy hv⟩
        · cases hev
      · rename_i hd
        split at hc
        · cases hc
          simp only [evOp] at hev
          split at hev
          · rename_i b b' h1 h2; cases hev; exact ⟨rfl, q_beq (neq := false) hI he ho hx hy hd h1 h2⟩
          · cases hev
        · cases hc
          simp only [evOp] at hev
          split at hev
          · rename_i b b' h1 h2; cases hev; exact ⟨rfl, q_beq (neq := true) hI he ho hx hy hd h1 h2⟩
          · cases hev
        · cases hc
      · rename_i fs hd
        split at hc
        · rename_i hcond
          simp only [Bool.and_eq_true, Bool.not_eq_true'] at hcond
          obtain ⟨⟨hf, hg⟩, hs⟩ := hcond
          split at hc
          · cases hc
            simp only [evOp] at hev
            split at hev
            · rename_i ps qs h1 h2
              split at hev
              · rename_i hl
                split at hev
                · rename_i b hb; cases hev; exact ⟨rfl, q_eqs (neq := false) hI he ho hx hy hd hf hg hs h1 h2 hl hb⟩
                · cases hev
              · cases hev
            · cases hev
          · cases hc
            simp only [evOp] at hev
            split at hev
            · rename_i ps qs h1 h2
              split at hev
              · rename_i hl
                split at hev
                · rename_i b hb; cases hev; exact ⟨rfl, q_eqs (neq := true) hI he ho hx hy hd hf hg hs h1 h2 hl hb⟩
                · cases hev
              · cases hev
            · cases hev
          · cases hc
        · cases hc
      · split at hc
        · rename_i kd hkd
          split at hc
          · rename_i hk
            split at hc
            · cases hc
              simp only [evOp] at hev
              split at hev
              · rename_i b hb; cases hev; exact ⟨rfl, q_nilq (neq := false) hI he ho hx hkd hk hb⟩
              · cases hev
            · cases hc
              simp only [evOp] at hev
              split at hev
              · rename_i b hb; cases hev; exact ⟨rfl, q_nilq (neq := true) hI he ho hx hkd hk hb⟩
              · cases hev
            · cases hc
          · split at hc
            · rename_i hk
              split at hc
              · cases hc
                simp only [evOp] at hev
                split at hev
                · rename_i b hb; cases hev; exact ⟨rfl, q_nilq' (neq := false) hI he ho hy hkd hk hb⟩
                · cases hev
              · cases hc
                simp only [evOp] at hev
                split at hev
                · rename_i b hb; cases hev; exact ⟨rfl, q_nilq' (neq := true) hI he ho hy hkd hk hb⟩
                · cases hev
              · cases hc
            · cases hc
        · cases hc
    · cases hc
  | unOp op t x =>
    rw [ho] at hc
    simp only [cOp, Option.map_eq_some_iff] at hc
    obtain ⟨sx, hx, rfl⟩ := hc
    simp only [evOp] at hev
    split at hev
    · rename_i v hv; cases hev; exact ⟨rfl, q_un hI he ho hx hv⟩
    · cases hev
  | extract x i =>
    rw [ho] at hc
    simp only [cOp, Option.map_eq_some_iff] at hc
    obtain ⟨sx, hx, rfl⟩ := hc
    simp only [evOp] at hev
    split at hev
    · rename_i vs hv
      split at hev
      · rename_i v hp; cases hev; exact ⟨rfl, q_ext hI he ho hx hv hp⟩
      · cases hev
    · cases hev
  | field t x f =>
    rw [ho] at hc
    simp only [cOp] at hc
    split at hc
    · rename_i fs sx ht hx
      split at hc
      · rename_i fd hf
        split at hc
        · rename_i n g hn hg
          cases hc
          simp only [evOp] at hev
          split at hev
          · rename_i cs hv
            split at hev
            · rename_i hl
              split at hev
              · rename_i v hp; cases hev; exact ⟨rfl, q_fld hI he ho hx ht hf hn hg hv hl hp⟩
              · cases hev
            · cases hev
          · cases hev
        · cases hc
      · cases hc
    · cases hc
  | build t parts =>
    rw [ho] at hc
    simp only [cOp] at hc
    split at hc
    · rename_i fs z ht hz
      split at hc
      · rename_i ps hps
        split at hc
        · rename_i hall
          cases hc
          simp only [evOp] at hev
          split at hev
          · rename_i cs hf; cases hev; exact ⟨rfl, q_bldS hI he ho ht hz hps hall hf⟩
          · cases hev
        · cases hc
      · cases hc
    · rename_i len el z ht hz
      split at hc
      · rename_i n hn
        split at hc
        · rename_i ps hps
          cases hc
          simp only [evOp] at hev
          split at hev
          · rename_i cs hf; cases hev; exact ⟨rfl, q_bldA hI he ho ht hz hn hps hf⟩
          · cases hev
        · cases hc
      · cases hc
    · cases hc
  | buildSlice t len parts =>
    rw [ho] at hc
    simp only [cOp] at hc
    split at hc
    · rename_i el ht
      split at hc
      · rename_i n z ps hn hz hps
        split at hc
        · rename_i hcond
          cases hc
          simp only [evOp] at hev
          split at hev
          · rename_i es hf; cases hev; exact ⟨rfl, q_bsl hI he ho ht hn hz hps hcond.1 hcond.2.1 hcond.2.2 hf⟩
          · cases hev
        · cases hc
      · cases hc
    · cases hc
  | load t x =>
    rw [ho] at hc
    simp only [cOp] at hc
    have key : ∀ (n : Nat) (g : Bool) (sx : SV), aggT P t = some g → (g = true → sizeT P t = some n) → cSV x = some sx → so = .ld n g sx → ρ' = ρ ∧ OpRuns P o a w (Quiet c μ w p) := by
      rintro n g sx hg hn hx rfl
      simp only [evOp] at hev
      split at hev
      · rename_i cs hv
        split at hev
        · rename_i v hp; cases hev; exact ⟨rfl, q_ld_ip hI he ho hx hg hn hv hp⟩
        · cases hev
      · rename_i id esz i j hv
        split at hev
        · rename_i k hk
          split at hev
          · rename_i hz
            split at hev
            · rename_i cs hi
              split at hev
              · rename_i v hp; cases hev; exact ⟨rfl, q_ld_mp hI he ho hx hg hn hv hk hz hi hp⟩
              · cases hev
            · cases hev
          · cases hev
        · cases hev
      · cases hev
    split at hc
    · rename_i n sx hg hn hx; cases hc; exact key _ _ _ hg (fun _ => hn) hx rfl
    · rename_i sx hg hx; cases hc; exact key _ _ _ hg (fun h => by cases h) hx rfl
    · cases hc
  | fieldAddr t x f =>
    rw [ho] at hc
    simp only [cOp] at hc
    split at hc
    · rename_i fs sx ht hx
      split at hc
      · rename_i fd hf
        split at hc
        · rename_i n hn
          split at hc
          · rename_i hn0
            cases hc
            simp only [evOp] at hev
            split at hev
            · rename_i cs hv; cases hev; exact ⟨rfl, q_fad hI he ho hx ht hf hn hn0 (.inl ⟨cs, hv, rfl⟩)⟩
            · rename_i id esz i j hv; cases hev; exact ⟨rfl, q_fad hI he ho hx ht hf hn hn0 (.inr ⟨id, esz, i, j, hv, rfl⟩)⟩
            · cases hev
          · cases hc
        · cases hc
      · cases hc
    · cases hc
  | indexAddr t x i =>
    rw [ho] at hc
    simp only [cOp] at hc
    split at hc
    · rename_i el sx si ht hx hi
      split at hc
      · rename_i n hn
        cases hc
        simp only [evOp] at hev
        split at hev
        · rename_i esz' es m hv hm
          split at hev
          · rename_i hcond
            obtain ⟨rfl, h0⟩ := hcond
            split at hev
            · rename_i cs hcs; cases hev; exact ⟨rfl, q_iad hI he ho hx hi ht hn hm (.inl ⟨es, cs, hv, h0, hcs, rfl⟩)⟩
            · cases hev
          · cases hev
        · rename_i id esz' off m m' hv hm
          split at hev
          · rename_i hcond
            obtain ⟨rfl, h0, h1⟩ := hcond
            cases hev; exact ⟨rfl, q_iad hI he ho hx hi ht hn hm (.inr ⟨id, off, m, hv, h0, h1, rfl⟩)⟩
          · cases hev
        · cases hev
      · cases hc
    · rename_i len el sx si ht hx hi
      split at hc
      · rename_i n hn
        cases hc
        simp only [evOp] at hev
        split at hev
        · rename_i id E ia j m hv hm
          split at hev
          · rename_i hcond; cases hev; exact ⟨rfl, q_iada hI he ho hx hi ht hn hm hcond.1 hcond.2 (.inr ⟨id, E, ia, j, hv, rfl⟩)⟩
          · cases hev
        · rename_i cs m hv hm
          split at hev
          · rename_i hcond; cases hev; exact ⟨rfl, q_iada hI he ho hx hi ht hn hm hcond.1 hcond.2 (.inl ⟨cs, hv, rfl⟩)⟩
          · cases hev
        · cases hev
      · cases hc
    · cases hc
  | index t x i =>
    rw [ho] at hc
    simp only [cOp] at hc
    split at hc
    · rename_i sx si ht hx hi
      cases hc
      simp only [evOp] at hev
      split at hev
      · rename_i s m hv hm
        split at hev
        · rename_i h0
          split at hev
          · rename_i b hb; cases hev; exact ⟨rfl, q_idxs hI he ho hx hi ht hm h0 hv hb⟩
          · cases hev
        · cases hev
      · cases hev
    · rename_i len el sx si ht hx hi
      split at hc
      · rename_i n g hn hg
        cases hc
        simp only [evOp] at hev
        split at hev
        · rename_i cs m hv hm
          split at hev
          · rename_i hcond
            split at hev
            · rename_i v hp; cases hev; exact ⟨rfl, q_idxa hI he ho hx hi ht hn hg hm hcond.1 hcond.2.1 hv hcond.2.2 hp⟩
            · cases hev
          · cases hev
        · cases hev
      · cases hc
    · cases hc
  | slice t x lo hi mx =>
    rw [ho] at hc
    simp only [cOp] at hc
    split at hc
    · rename_i sx slo shi ht hx hlo hhi
      split at hc
      · cases hc
        simp only [evOp] at hev
        split at hev
        · rename_i s hv
          split at hev
          · rename_i l h hl hh
            split at hev
            · rename_i hcond; cases hev; exact ⟨rfl, q_slcs hI he ho hx ht hlo hhi hv hl hh hcond.1 hcond.2.1 hcond.2.2⟩
            · cases hev
          · cases hev
        · cases hev
      · cases hc
    · rename_i el sx slo shi ht hx hlo hhi
      split at hc
      · rename_i n hn
        split at hc
        · cases hc
          simp only [evOp] at hev
          split at hev
          · cases hev
          · rename_i l hl
            split at hev
            · rename_i b hv
              split at hev
              · rename_i h hh
                split at hev
                · rename_i hcond; cases hev; exact ⟨rfl, q_slc hI he ho hx ht hn hlo hhi hl (.inl ⟨b, h, hv, hh, hcond.1, hcond.2, rfl⟩)⟩
                · cases hev
              · cases hev
            · rename_i esz' es hv
              split at hev
              · rename_i h hh
                split at hev
                · rename_i hcond
                  obtain ⟨rfl, h0, h1, h2⟩ := hcond
                  cases hev; exact ⟨rfl, q_slc hI he ho hx ht hn hlo hhi hl (.inr (.inl ⟨es, h, hv, hh, h0, h1, h2, rfl⟩))⟩
                · cases hev
              · cases hev
            · rename_i id esz' off m hv
              split at hev
              · rename_i h hh
                split at hev
                · rename_i hcond
                  obtain ⟨rfl, h0, h1, h2, h3⟩ := hcond
                  cases hev; exact ⟨rfl, q_slc hI he ho hx ht hn hlo hhi hl (.inr (.inr ⟨id, off, m, h, hv, hh, h0, h1, h2, h3, rfl⟩))⟩
                · cases hev
              · cases hev
            · cases hev
        · have key : ∀ {lo' : Option Operand}, (lo' = none ∨ lo' = some (.const (.int .i64 0))) → o.op = .slice t x lo' (some (.const (.int .i64 0))) (some (.const (.int .i64 0))) → so = .slc0 sx → ρ' = ρ ∧ OpRuns P o a w (Quiet c μ w p) := by
            rintro lo' hlo' ho' rfl
            simp only [evOp] at hev
            split at hev
            · rename_i b hv; cases hev; exact ⟨rfl, q_slc0 hI he ho' hlo' hx ht hn (.inl ⟨b, hv, rfl⟩)⟩
            · rename_i m es hv; cases hev; exact ⟨rfl, q_slc0 hI he ho' hlo' hx ht hn (.inr (.inl ⟨es, m, hv, rfl⟩))⟩
            · rename_i id m off k hv; cases hev; exact ⟨rfl, q_slc0 hI he ho' hlo' hx ht hn (.inr (.inr ⟨id, m, off, k, hv, rfl⟩))⟩
            · cases hev
          split at hc
          · cases hc; exact key (.inl rfl) ho rfl
          · cases hc; exact key (.inr rfl) ho rfl
          · cases hc
        · cases hc
      · cases hc
    · cases hc
  | makeFunc f first caps =>
    rw [ho] at hc
    cases f with
    | func f =>
      simp only [cOp] at hc
      split at hc
      · rename_i h0
        simp only [Option.map_eq_some_iff] at hc
        obtain ⟨scs, hs, rfl⟩ := hc
        cases hev
        exact ⟨rfl, q_mkf hI he ho h0 hs⟩
      · cases hc
    | _ => cases hc
  | nilCheck x =>
    rw [ho] at hc
    simp only [cOp, Option.map_eq_some_iff] at hc
    obtain ⟨sx, hx, rfl⟩ := hc
    simp only [evOp] at hev
    split at hev
    · rename_i id esz i j hv; cases hev; exact ⟨rfl, q_nck hI he ho hx hv (.inl ⟨id, esz, i, j, rfl⟩)⟩
    · rename_i cs hv; cases hev; exact ⟨rfl, q_nck hI he ho hx hv (.inr (.inl ⟨cs, rfl⟩))⟩
    · rename_i f cs hv; cases hev; exact ⟨rfl, q_nck hI he ho hx hv (.inr (.inr ⟨f, cs, rfl⟩))⟩
    · cases hev
  | makeInterface t x =>
    rw [ho] at hc
    simp only [cOp] at hc
    split at hc
    · cases hc
    · rename_i d sx h1 ht hx
      cases hc
      cases hev
      exact ⟨rfl, q_mki hI ho ht (fun ms h => h1 ms h)⟩
    · cases hc
  | convert s d x =>
    rw [ho] at hc
    simp only [cOp] at hc
    split at hc
    · rename_i sx k' k hx hs hd
      cases hc
      simp only [evOp] at hev
      split at hev
      · rename_i k2 n hv; cases hev; exact ⟨rfl, q_conv hI he ho hx hs hd hv⟩
      · cases hev
    · rename_i sx hx hs hd
      cases hc
      simp only [evOp] at hev
      split at hev
      · rename_i z hv; cases hev; exact ⟨rfl, q_convS hI he ho hx hs hd hv⟩
      · cases hev
    · rename_i sx el hx hs hd
      split at hc
      · rename_i hel h1
        cases hc
        simp only [evOp] at hev
        split at hev
        · rename_i b hv; cases hev; exact ⟨rfl, q_b2s hI he ho hx hs hel hd (.inl ⟨b, hv, rfl⟩)⟩
        · rename_i es hv
          split at hev
          · rename_i l hl; cases hev; exact ⟨rfl, q_b2s hI he ho hx hs hel hd (.inr (.inl ⟨es, l, hv, hl, rfl⟩))⟩
          · cases hev
        · rename_i id off n hv
          split at hev
          · rename_i k hk
            split at hev
            · rename_i hcond
              split at hev
              · rename_i l hl; cases hev; exact ⟨rfl, q_b2s hI he ho hx hs hel hd (.inr (.inr ⟨id, off, n, k, l, hv, hk, hcond.1, hcond.2, hl, rfl⟩))⟩
              · cases hev
            · cases hev
          · cases hev
        · cases hev
      · cases hc
    · rename_i sx el hx hs hd
      split at hc
      · rename_i hel h1
        cases hc
        simp only [evOp] at hev
        split at hev
        · rename_i z hv; cases hev; exact ⟨rfl, q_s2b hI he ho hx hs hd hel hv⟩
        · cases hev
      · cases hc
    · cases hc
  | call cl =>
    rw [ho] at hc
    simp only [cOp, cCall] at hc
    split at hc
    · rename_i f sargs hcal hargs
      split at hc
      · cases hc
        simp only [evOp, SV.ev] at hev
        split at hev
        · rename_i p' vs hp hs
          split at hev
          · rename_i r hr
            split at hev
            · cases hev
            · rename_i hfl
              cases hev
              exact ⟨rfl, q_callR hT hI he ho hcal (sf := .k (.fn f [])) rfl hargs rfl hp hs hr (by simpa using hfl)⟩
          · cases hev
        · cases hev
      · cases hc; rcases hcl with h | h <;> cases h
    · rename_i t sargs hcal hargs
      split at hc
      · cases hc
        simp only [evOp] at hev
        split at hev
        · rename_i g caps hv
          split at hev
          · rename_i p' vs hp hs
            split at hev
            · rename_i r hr
              split at hev
              · cases hev
              · rename_i hfl
                cases hev
                exact ⟨rfl, q_callR hT hI he ho hcal (sf := .t t) rfl hargs hv hp hs hr (by simpa using hfl)⟩
            · cases hev
          · cases hev
        · cases hev
      · cases hc; rcases hcl with h | h <;> cases h
    · rename_i sx hcal hargs
      have hx1 : ∃ x, cl.args.toList = [x] ∧ cSV x = some sx := by
        cases hl : cl.args.toList with
        | nil => rw [hl] at hargs; cases hargs
        | cons x xs =>
          cases xs with
          | nil =>
            rw [hl] at hargs
            simp only [cSVs] at hargs
            split at hargs
            · rename_i y ys h1 h2; cases h2; cases hargs; exact ⟨x, rfl, h1⟩
            · cases hargs
          | cons y ys => rw [hl] at hargs; have := cSVs_len hargs; simp at this
      obtain ⟨x, hl, hx⟩ := hx1
      split at hc
      · rename_i t hts
        split at hc
        · rename_i ht
          cases hc
          simp only [evOp] at hev
          split at hev
          · rename_i s hv
            cases hev
            exact ⟨rfl, q_len hI he ho hcal hl hts hx (.inl ⟨ht, s, hv⟩) (.inl ⟨s, hv, rfl⟩)⟩
          · cases hev
        · rename_i el ht
          cases hc
          simp only [evOp] at hev
          split at hev
          · rename_i b hv; cases hev; exact ⟨rfl, q_len (n := 0) hI he ho hcal hl hts hx (.inr ⟨⟨el, ht⟩, fun s h => by rw [hv] at h; cases h⟩) (.inr (.inl ⟨b, hv, rfl⟩))⟩
          · rename_i z es hv; cases hev; exact ⟨rfl, q_len hI he ho hcal hl hts hx (.inr ⟨⟨el, ht⟩, fun s h => by rw [hv] at h; cases h⟩) (.inr (.inr (.inl ⟨z, es, hv, rfl⟩)))⟩
          · rename_i id z off n hv; cases hev; exact ⟨rfl, q_len hI he ho hcal hl hts hx (.inr ⟨⟨el, ht⟩, fun s h => by rw [hv] at h; cases h⟩) (.inr (.inr (.inr ⟨id, z, off, hv⟩)))⟩
          · cases hev
        · cases hc
      · cases hc
    · rename_i sxs hcal hargs
      split at hc
      · cases hc
        simp only [evOp] at hev
        split at hev
        · rename_i v hv; cases hev; exact ⟨rfl, q_mm (isMax := false) hI he ho hcal hargs hv⟩
        · cases hev
      · cases hc
    · rename_i sxs hcal hargs
      split at hc
      · cases hc
        simp only [evOp] at hev
        split at hev
        · rename_i v hv; cases hev; exact ⟨rfl, q_mm (isMax := true) hI he ho hcal hargs hv⟩
        · cases hev
      · cases hc
    · split at hc
      · split at hc
        · split at hc
          · cases hc; rcases hcl with h | h <;> cases h
          · cases hc
        · cases hc
      · cases hc
    · split at hc
      · split at hc
        · split at hc
          · split at hc
            · cases hc; rcases hcl with h | h <;> cases h
            · cases hc
          · cases hc
        · split at hc
          · split at hc
            · cases hc; rcases hcl with h | h <;> cases h
            · cases hc
          · cases hc
        · split at hc
          · split at hc
            · cases hc; rcases hcl with h | h <;> cases h
            · cases hc
          · cases hc
        · cases hc
      · cases hc
    · cases hc
  | alloc t => rw [ho] at hc; simp only [cOp, Option.map_eq_some_iff] at hc; obtain ⟨z, _, rfl⟩ := hc; rcases hcl with h | h <;> cases h
  | box t x => rw [ho] at hc; simp only [cOp] at hc; split at hc <;> first | (cases hc; rcases hcl with h | h <;> cases h) | cases hc
  | store t x v => rw [ho] at hc; simp only [cOp] at hc; split at hc <;> first | (cases hc; rcases hcl with h | h <;> cases h) | cases hc
  | makeSlice t l cp =>
    rw [ho] at hc
    simp only [cOp] at hc
    split at hc
    · split at hc
      · split at hc
        · cases hc; rcases hcl with h | h <;> cases h
        · cases hc
      · cases hc
    · cases hc
  | panic x => rw [ho] at hc; cases hc; rcases hcl with h | h <;> cases h
  | _ => rw [ho] at hc; cases hc

end Go.Proofs.YtkccoijckckhmaaGreatDoor.Ev
