/- The abstract machine: what each operation, each piece of code and each call computes over abstract memory. -/
import Derived.Test.YtdhbclplondmjaaCMem2
set_option linter.unusedVariables false
set_option linter.unusedSimpArgs false
namespace Go.Proofs.Ytdhbclplondmjaa.C
open Go.RowKit

inductive UD where
  | bool | int (k : IntKind) | string | slice (e : TypeId) | struct (fs : List (TypeId × Nat)) | array (n : Nat) (e : TypeId)
  | pointer (e : TypeId) | map (k e : TypeId) | func | iface | other

structure TI where
  desc : UD
  zero : Value
  size : Nat
  bytes : Nat

/-- A program's types and functions, as far as they are told. -/
structure Tab where
  T : TypeId → Option TI
  fn : FuncId → Option Func
  /-- methods: type, name, function, pointer receiver (called by a pointer: the receiver itself) -/
  meth : TypeId → String → Option (FuncId × Option TypeId)
  /-- functions whose behaviour is given -/
  ext : FuncId → Option (List Value → List Blk → Option (Value × List Blk))

def Tab.d (T : Tab) (t : TypeId) : Option UD := (T.T t).map TI.desc

def TI.agg (i : TI) : Bool := match i.desc with | .struct _ | .array _ _ => true | _ => false

def plain : Value → Bool
  | .bool _ | .int _ _ | .string _ | .pointer none | .map none | .nilFunc | .nilIface | .slice none 0 0 => true
  | _ => false

def ev (s : List Value) : Operand → Value
  | .tmp t => s.getD t undef
  | .const v => if plain v then v else undef
  | .func f => .func (.func f) #[] #[]
  | .global _ => undef

def oneCell : Value → Bool
  | .agg _ | .tuple _ | .chan _ => false
  | _ => true

def cellsOf : Value → List Value
  | .agg cs => cs.toList
  | v => [v]

def readCells (H : Heap) (b o n : Nat) : Option (List Value) :=
  match H[b]? with
  | some (.row _ cs _ true) => if o + n ≤ cs.length then some ((cs.drop o).take n) else none
  | _ => none

def setCells (cs : List Value) : Nat → List Value → List Value
  | _, [] => cs
  | o, v :: vs => setCells (cs.set o v) (o + 1) vs

def writeCells (H : Heap) (b o : Nat) (vs : List Value) : Option Heap :=
  if vs.all oneCell then
    match H[b]? with
    | some (.row sz cs true true) => if o + vs.length ≤ cs.length then some (H.set b (.row sz (setCells cs o vs) true true)) else none
    | _ => none
  else none

def newRow (H : Heap) (sz : Nat) (cs : List Value) : Value × Heap := (.pointer (some ⟨H.length, 0, none⟩), H ++ [.row sz cs true true])

def isTuple : Value → Bool
  | .tuple _ => true
  | _ => false

def fillParts (size : Nat → Option (Nat × Nat)) (cells : List Value) : List (Nat × Value) → Option (List Value)
  | [] => some cells
  | (i, v) :: rest =>
    match size i with
    | none => none
    | some (off, n) => if (cellsOf v).length = n ∧ off + n ≤ cells.length ∧ isTuple v = false then fillParts size (setCells cells off (cellsOf v)) rest else none

def repCells (z : List Value) : Nat → List Value
  | 0 => []
  | n + 1 => z ++ repCells z n

def binInt (op : BinOp) (k : IntKind) (a b : Int) : Option Value :=
  match op with
  | .add => some (.int k (k.wrap (a + b)))
  | .sub => some (.int k (k.wrap (a - b)))
  | .mul => some (.int k (k.wrap (a * b)))
  | .quo => if b = 0 then none else some (.int k (k.wrap (a.tdiv b)))
  | .rem => if b = 0 then none else some (.int k (a.tmod b))
  | .and => some (.int k (k.wrap (BitVec.ofInt k.bits a &&& BitVec.ofInt k.bits b).toNat))
  | .or => some (.int k (k.wrap (BitVec.ofInt k.bits a ||| BitVec.ofInt k.bits b).toNat))
  | .xor => some (.int k (k.wrap (BitVec.ofInt k.bits a ^^^ BitVec.ofInt k.bits b).toNat))
  | .andNot => some (.int k (k.wrap (BitVec.ofInt k.bits a &&& ~~~BitVec.ofInt k.bits b).toNat))
  | .eql => some (.bool (a == b))
  | .neq => some (.bool (a != b))
  | .lss => some (.bool (a < b))
  | .leq => some (.bool (a ≤ b))
  | .gtr => some (.bool (a > b))
  | .geq => some (.bool (a ≥ b))
  | _ => none

def binStr (op : BinOp) (x y : ByteArray) : Option Value :=
  match op with
  | .add => if ((x.size + y.size : Nat) : Int) > IntKind.i64.max then none else some (.string (x ++ y))
  | .eql => some (.bool (x.toList == y.toList))
  | .neq => some (.bool (!(x.toList == y.toList)))
  | .lss => some (.bool (Op.bytesLess x.toList y.toList))
  | .leq => some (.bool (Op.bytesLess x.toList y.toList || x.toList == y.toList))
  | .gtr => some (.bool (!(Op.bytesLess x.toList y.toList || x.toList == y.toList)))
  | .geq => some (.bool (!(Op.bytesLess x.toList y.toList)))
  | _ => none

def nilEq : UD → Value → Value → Option Bool
  | .slice _, .slice none _ _, .slice b _ _ => some b.isNone
  | .slice _, .slice _ _ _, .slice none _ _ => some false
  | .pointer _, .pointer none, .pointer b => some b.isNone
  | .pointer _, .pointer _, .pointer none => some false
  | .iface, .nilIface, .iface _ _ => some false
  | .iface, .iface _ _, .nilIface => some false
  | .bool, .bool a, .bool b => some (a == b)
  | _, _, _ => none

def binOp (T : Tab) (op : BinOp) (t : TypeId) (x y : Value) : Option Value :=
  match x, y with
  | .int k a, .int k' b =>
    match op with
    | .shl => if b < 0 then none else some (.int k (k.wrap (a * 2 ^ (min b.toNat k.bits))))
    | .shr => if b < 0 then none else some (.int k (a.fdiv (2 ^ (min b.toNat k.bits))))
    | op => if k = k' then binInt op k a b else none
  | .string a, .string b => binStr op a b
  | x, y =>
    match op, (T.T t).bind fun i => nilEq i.desc x y with
    | .eql, some r => some (.bool r)
    | .neq, some r => some (.bool (!r))
    | _, _ => none

def unOp (op : UnOp) (x : Value) : Option Value :=
  match op, x with
  | .neg, .int k n => some (.int k (k.wrap (0 - n)))
  | .not, .bool b => some (.bool (!b))
  | .xor, .int k n => some (.int k (k.wrap (BitVec.ofInt k.bits (if k.signed then -1 else k.max) ^^^ BitVec.ofInt k.bits n).toNat))
  | _, _ => none

def bnd (v : Value) (y : Nat) : Option Nat :=
  match v with
  | .int _ i => if 0 ≤ i ∧ i ≤ y then some i.toNat else none
  | _ => none

def szAt (H : Heap) (b : Nat) : Option Nat :=
  match H[b]? with
  | some (.row sz _ _ true) => some sz
  | _ => none

/-- 'xs[lo:hi]', 'xs[lo:hi:mx]': the limit is what the capacity is known to be. -/
def cutSlice (H : Heap) (sz : Nat) (a : Option Addr) (n c : Nat) (l h : Nat) (m : Option Nat) : Option Value :=
  match a with
  | none => if n = 0 ∧ c = 0 then some (.slice none 0 0) else none
  | some ⟨b, o, none⟩ =>
    match m with
    | some m => if m = l then some (.slice (some ⟨b, o, none⟩) 0 0) else if szAt H b = some sz then some (.slice (some ⟨b, o + l * sz, none⟩) (h - l) (m - l)) else none
    | none =>
      if c = l ∧ c ≠ unk then some (.slice (some ⟨b, o, none⟩) 0 0)
      else if szAt H b = some sz then some (.slice (some ⟨b, o + l * sz, none⟩) (h - l) (if c = unk then unk else c - l)) else none
  | _ => none

def sliceVal (T : Tab) (H : Heap) (t : TypeId) (x : Value) (lo hi mx : Option Value) : Option Value :=
  match T.d t, x with
  | some .string, .string s =>
    match mx with
    | some _ => none
    | none =>
      (match hi with | some v => bnd v s.size | none => some s.size).bind fun h =>
      (match lo with | some v => bnd v h | none => some 0).bind fun l => some (.string (s.extract l h))
  | some (.slice e), .slice a n c =>
    (T.T e).bind fun ei =>
    match mx with
    | some v =>
      (bnd v (if c = unk then n else c)).bind fun m =>
      (match hi with | some v => bnd v m | none => none).bind fun h =>
      (match lo with | some v => bnd v h | none => some 0).bind fun l => cutSlice H ei.size a n c l h (some m)
    | none =>
      (match hi with | some v => bnd v (if c = unk then n else c) | none => some n).bind fun h =>
      (match lo with | some v => bnd v h | none => some 0).bind fun l => cutSlice H ei.size a n c l h none
  | _, _ => none

def indexAddr (T : Tab) (t : TypeId) (x i : Value) : Option Value :=
  match T.d t, x, i with
  | some (.slice e), .slice (some ⟨b, o, none⟩) n _, .int _ i =>
    match T.T e with
    | some ei => if 0 ≤ i ∧ i < n ∧ 0 < ei.size then some (.pointer (some ⟨b, o + i.toNat * ei.size, none⟩)) else none
    | none => none
  | some (.array n e), .pointer (some ⟨b, o, none⟩), .int _ i =>
    match T.T e with
    | some ei => if 0 ≤ i ∧ i < n ∧ 0 < ei.size then some (.pointer (some ⟨b, o + i.toNat * ei.size, none⟩)) else none
    | none => none
  | _, _, _ => none

def vBox (T : Tab) (H : Heap) (e : TypeId) (v : Value) : Option (Value × Heap) := if isTuple v then none else (T.T e).map fun i => newRow H i.size (cellsOf v)

def vBuild (T : Tab) (t : TypeId) (parts : List (Nat × Value)) : Option Value := do
  let i ← T.T t
  match i.desc with
  | .struct fs => do
    let places ← fs.mapM fun f => (T.T f.1).map fun k => (f.2, k.size)
    let cs ← fillParts (fun j => places[j]?) (cellsOf i.zero) parts
    some (.agg cs.toArray)
  | .array _ e => do
    let ei ← T.T e
    let cs ← fillParts (fun j => some (j * ei.size, ei.size)) (cellsOf i.zero) parts
    some (.agg cs.toArray)
  | _ => none

def vBuildSlice (T : Tab) (H : Heap) (t : TypeId) (n : Nat) (parts : List (Nat × Value)) : Option (Value × Heap) := do
  let i ← T.T t
  match i.desc with
  | .slice e => do
    let ei ← T.T e
    if n * ei.size > 65536 then none else
    let cs ← fillParts (fun j => some (j * ei.size, ei.size)) (repCells (cellsOf ei.zero) n) parts
    some (.slice (some ⟨H.length, 0, none⟩) n n, H ++ [.row ei.size cs true true])
  | _ => none

def vLoad (T : Tab) (H : Heap) (t : TypeId) (a : Value) : Option Value := do
  let i ← T.T t
  match a with
  | .pointer (some ⟨b, o, none⟩) => do
    let cs ← readCells H b o i.size
    if i.agg then some (.agg cs.toArray) else match cs with | [v] => some v | _ => none
  | _ => none

def vStore (T : Tab) (H : Heap) (t : TypeId) (a v : Value) : Option Heap := do
  let i ← T.T t
  match a with
  | .pointer (some ⟨b, o, none⟩) => if (cellsOf v).length = i.size then writeCells H b o (cellsOf v) else none
  | _ => none

def vNilCheck (x : Value) : Option Value :=
  match x with
  | .pointer (some a) => some (.pointer (some a))
  | .func (.func f) a c => some (.func (.func f) a c)
  | .iface t v => some (.iface t v)
  | _ => none

def vConvert (T : Tab) (src dst : TypeId) (x : Value) : Option Value :=
  match T.d src, T.d dst, x with
  | some (.int _), some (.int k), .int _ n => some (.int k (k.wrap n))
  | some .string, some .string, .string b => some (.string b)
  | _, _, _ => none

def vMakeIface (T : Tab) (t : TypeId) (x : Value) : Option Value :=
  match T.d t with
  | some .iface | some .other | none => none
  | some _ => some (.iface t x)

def vMakeSlice (T : Tab) (H : Heap) (t : TypeId) (n c : Value) : Option (Value × Heap) := do
  let i ← T.T t
  match i.desc, n, c with
  | .slice e, .int .i64 l, .int .i64 m => do
    let ei ← T.T e
    if 0 ≤ l ∧ l ≤ m ∧ m * ei.bytes ≤ 2 ^ 40 ∧ 0 < ei.size ∧ m ≤ 2 ^ 40 then
      some (.slice (some ⟨H.length, 0, none⟩) l.toNat m.toNat, H ++ [.row ei.size (repCells (cellsOf ei.zero) m.toNat) true true])
    else none
  | _, _, _ => none

def vFieldAddr (T : Tab) (t : TypeId) (x : Value) (f : Nat) : Option Value := do
  let i ← T.T t
  match i.desc, x with
  | .struct fs, .pointer (some ⟨b, o, none⟩) => do
    let f ← fs[f]?
    let k ← T.T f.1
    if 0 < k.size then some (.pointer (some ⟨b, o + f.2, none⟩)) else none
  | _, _ => none

def vField (T : Tab) (t : TypeId) (x : Value) (f : Nat) : Option Value := do
  let i ← T.T t
  match i.desc, x with
  | .struct fs, .agg cs => do
    let f ← fs[f]?
    let k ← T.T f.1
    if k.agg then (if f.2 + k.size ≤ cs.size then some (.agg ((cs.toList.drop f.2).take k.size).toArray) else none) else cs.toList[f.2]?
  | _, _ => none

def vIndex (T : Tab) (t : TypeId) (x i : Value) : Option Value :=
  match T.d t, x, i with
  | some .string, .string b, .int _ j => if 0 ≤ j then (b.data.toList[j.toNat]?).map fun c => .int .u8 c.toNat else none
  | _, _, _ => none

def vExtract (x : Value) (i : Nat) : Option Value :=
  match x with
  | .tuple vs => vs.toList[i]?
  | _ => none

def vAssert (T : Tab) (x : Value) (t : TypeId) : Option Value :=
  match T.d t, x with
  | some .iface, _ | some .other, _ | none, _ => none
  | some _, .iface u v => if u = t then some v else none
  | _, _ => none

def vLen (T : Tab) (t : TypeId) (x : Value) : Option Value :=
  match T.d t, x with
  | some .string, .string b => some (.int .i64 b.size)
  | some (.slice _), .slice _ n _ => some (.int .i64 n)
  | _, _ => none

def srcCells (H : Heap) (a2 : Option Addr) (m size : Nat) : Option (List Value) :=
  match a2 with
  | none => if m = 0 then some [] else none
  | some ⟨b, o, none⟩ => if m = 0 then some [] else readCells H b o (m * size)
  | _ => none

/-- Is there certainly no room, or certainly room, or is it open? -/
def vAppend (T : Tab) (H : Heap) (t : TypeId) (x y : Value) : Option (Value × Heap) := do
  let i ← T.T t
  match i.desc, x, y with
  | .slice e, .slice a n c, .slice a2 m _ => do
    let ei ← T.T e
    if 0 < ei.size ∧ 0 < ei.bytes ∧ (n + m) * ei.bytes ≤ 2 ^ 40 ∧ n + m ≤ 2 ^ 40 then do
      let new ← srcCells H a2 m ei.size
      if new.all oneCell then
        if n = 0 ∧ c = 0 then
          if m = 0 then some (.slice a 0 0, H) else some (.slice (some ⟨H.length, 0, none⟩) m unk, H ++ [.row ei.size new true true])
        else match a with
          | some ⟨b, o, none⟩ =>
            if c = unk then
              match H[b]? with
              | some (.row sz cs true true) =>
                if sz = ei.size ∧ o + n * ei.size ≤ cs.length then
                  some (.slice (some ⟨H.length, 0, none⟩) (n + m) unk, (H.set b (.row sz cs true false)) ++ [.row ei.size ((cs.drop o).take (n * ei.size) ++ new) true true])
                else none
              | _ => none
            else if n + m ≤ c then
              match H[b]? with
              | some (.row sz cs true true) =>
                if sz = ei.size then (writeCells H b (o + n * ei.size) new).map fun H' => (.slice (some ⟨b, o, none⟩) (n + m) c, H') else none
              | _ => none
            else do
              let old ← readCells H b o (n * ei.size)
              some (.slice (some ⟨H.length, 0, none⟩) (n + m) unk, H ++ [.row ei.size (old ++ new) true true])
          | _ => none
      else none
    else none
  | _, _, _ => none

/-- 'clear' of a slice -/
def vClear (T : Tab) (H : Heap) (t : TypeId) (x : Value) : Option Heap :=
  match T.d t, x with
  | some (.slice e), .slice a n _ =>
    if n = 0 then some H else
    match a, T.T e with
    | some ⟨b, o, none⟩, some ei => writeCells H b o (repCells (cellsOf ei.zero) n)
    | _, _ => none
  | _, _ => none

/-- 'copy' of slices -/
def vCopy (T : Tab) (H : Heap) (t : TypeId) (x y : Value) : Option (Value × Heap) :=
  match T.d t, x, y with
  | some (.slice e), .slice a n _, .slice a2 m _ =>
    match T.T e with
    | some ei =>
      if min m n = 0 then some (.int .i64 0, H) else
      match a, a2 with
      | some ⟨b, o, none⟩, some ⟨b2, o2, none⟩ => (readCells H b2 o2 (min m n * ei.size)).bind fun cs => (writeCells H b o cs).map fun H' => (.int .i64 (min m n : Nat), H')
      | _, _ => none
    | none => none
  | _, _, _ => none

def vBuiltin (T : Tab) (H : Heap) (b : Builtin) (xs : List Value) (ts : List TypeId) : Option (Value × Heap) :=
  match b, xs, ts with
  | .len, [x], [t] => (vLen T t x).map fun v => (v, H)
  | .max, [.int k x, .int _ y], _ => some (.int k (if y > x then y else x), H)
  | .min, [.int k x, .int _ y], _ => some (.int k (if y < x then y else x), H)
  | .clear, [x], [t] => (vClear T H t x).map fun H' => (undef, H')
  | .append, [x, y], [t, u] => if t = u then vAppend T H t x y else none
  | .copy, [x, y], [t, u] => vCopy T H t x y
  | _, _, _ => none

/-- Maps by strings. -/
def lookE : List (Value × Value) → ByteArray → Option (Option Value)
  | [], _ => some none
  | (.string a, v) :: l, s => if s == a then some (some v) else lookE l s
  | _ :: _, _ => none

def setE : List (Value × Value) → ByteArray → Value → Option (List (Value × Value))
  | [], s, v => some [(.string s, v)]
  | (.string a, u) :: l, s, v => if s == a then some ((.string s, v) :: l) else (setE l s v).map fun l' => (.string a, u) :: l'
  | _ :: _, _, _ => none

def entriesOf (H : Heap) (x : Value) : Option (List (Value × Value)) :=
  match x with
  | .map none => some []
  | .map (some b) => match H[b]? with | some (.map es) => some es | _ => none
  | _ => none

def vLookup (T : Tab) (H : Heap) (t : TypeId) (x k : Value) (ok : Bool) : Option Value :=
  match T.d t, k with
  | some (.map kt et), .string s =>
    match T.d kt, T.T et with
    | some .string, some ei => (entriesOf H x).bind fun es => (lookE es s).map fun r => if ok then .tuple #[r.getD ei.zero, .bool r.isSome] else r.getD ei.zero
    | _, _ => none
  | _, _ => none

def vMapUpdate (T : Tab) (H : Heap) (t : TypeId) (m k v : Value) : Option Heap :=
  match T.d t, m, k with
  | some (.map kt _), .map (some b), .string s =>
    match T.d kt, H[b]? with
    | some .string, some (.map es) => (setE es s v).map fun es' => H.set b (.map es')
    | _, _ => none
  | _, _, _ => none

/-- '[]byte(s)' -/
def vBytes0 (T : Tab) (H : Heap) (src dst : TypeId) (x : Value) : Option (Value × Heap) :=
  match T.d src, T.d dst, x with
  | some .string, some (.slice e), .string s =>
    match T.T e with
    | some ei => match ei.desc with
      | .int .u8 => if ei.size = 1 then some (.slice (some ⟨H.length, 0, none⟩) s.size unk, H ++ [.row 1 (s.data.toList.map fun b => .int .u8 b.toNat) true true]) else none
      | _ => none
    | none => none
  | _, _, _ => none

/-- 'string(b)' -/
def bytesIn : List Value → Option (List UInt8)
  | [] => some []
  | .int .u8 k :: l => if 0 ≤ k ∧ k < 256 then (bytesIn l).map fun r => UInt8.ofNat k.toNat :: r else none
  | _ :: _ => none

def vString (T : Tab) (H : Heap) (src dst : TypeId) (x : Value) : Option Value :=
  match T.d src, T.d dst, x with
  | some (.slice e), some .string, .slice (some ⟨b, o, none⟩) n _ =>
    match T.T e with
    | some ei => match ei.desc with
      | .int .u8 => (readCells H b o n).bind fun cs => (bytesIn cs).map fun l => .string ⟨l.toArray⟩
      | _ => none
    | none => none
  | _, _, _ => none

def vBytes (T : Tab) (H : Heap) (src dst : TypeId) (x : Value) : Option (Value × Heap) :=
  match vBytes0 T H src dst x with
  | some r => some r
  | none => (vString T H src dst x).map fun v => (v, H)

/-- The operations that make no call. -/
def opEval (T : Tab) (s : List Value) (H : Heap) (o : Op) : Option (Value × Heap) :=
  match o with
  | .move x | .assign x => some (ev s x, H)
  | .pick c a b => match ev s c with | .bool t => some (if t then ev s a else ev s b, H) | _ => none
  | .alloc e => (T.T e).bind fun i => vBox T H e i.zero
  | .box e x => vBox T H e (ev s x)
  | .build t parts => (vBuild T t (parts.toList.map fun p => (p.1, ev s p.2))).map fun v => (v, H)
  | .buildSlice t n parts => vBuildSlice T H t n (parts.toList.map fun p => (p.1, ev s p.2))
  | .load t a => (vLoad T H t (ev s a)).map fun v => (v, H)
  | .store t a v => (vStore T H t (ev s a) (ev s v)).map fun H' => (undef, H')
  | .nilCheck x => (vNilCheck (ev s x)).map fun v => (v, H)
  | .binOp op t x y _ => (binOp T op t (ev s x) (ev s y)).map fun v => (v, H)
  | .unOp op _ x => (unOp op (ev s x)).map fun v => (v, H)
  | .convert src dst x => match vConvert T src dst (ev s x) with | some v => some (v, H) | none => vBytes T H src dst (ev s x)
  | .makeMap _ none => some (.map (some H.length), H ++ [.map []])
  | .lookup t x k ok => (vLookup T H t (ev s x) (ev s k) ok).map fun v => (v, H)
  | .mapUpdate t m k v => (vMapUpdate T H t (ev s m) (ev s k) (ev s v)).map fun H' => (undef, H')
  | .makeInterface t x => (vMakeIface T t (ev s x)).map fun v => (v, H)
  | .makeFunc fn first captured => some (.func fn ((first.toList.map (ev s)).toArray) ((captured.toList.map (ev s)).toArray), H)
  | .makeSlice t n c => vMakeSlice T H t (ev s n) (ev s c)
  | .slice t x lo hi mx => (sliceVal T H t (ev s x) (lo.map (ev s)) (hi.map (ev s)) (mx.map (ev s))).map fun v => (v, H)
  | .fieldAddr t x f => (vFieldAddr T t (ev s x) f).map fun v => (v, H)
  | .field t x f => (vField T t (ev s x) f).map fun v => (v, H)
  | .indexAddr t x i => (indexAddr T t (ev s x) (ev s i)).map fun v => (v, H)
  | .index t x i => (vIndex T t (ev s x) (ev s i)).map fun v => (v, H)
  | .extract x i => (vExtract (ev s x) i).map fun v => (v, H)
  | .typeAssert x _ t false => (vAssert T (ev s x) t).map fun v => (v, H)
  | .call { callee := .builtin b, args, argTypes } => vBuiltin T H b (args.toList.map (ev s)) argTypes.toList
  | _ => none

end Go.Proofs.Ytdhbclplondmjaa.C
