/-
  A SYMBOLIC EXECUTOR FOR THE MODEL'S CODE, part 1: abstract values, abstract memory, and what each operation comes to. Plain definitions, each by patterns on its arguments (so that 'dsimp' runs them from the inside out).
-/
import Derived.WalkKit
import Derived.Below
import Derived.Orders
set_option linter.unusedVariables false
namespace Go.Rf

/-- Abstract values. A slice that is only read is told by its elements, each a row of cells; a slice of the call's own by a place in the abstract memory. -/
inductive AV where
  | junk
  | int (k : IntKind) (n : Int)
  | bool (b : Bool)
  | str (s : ByteArray)
  | fn (f : FuncId)
  | agg (cs : List AV)
  | tup (vs : List AV)
  | sl (sz : Nat) (fresh : Bool) (es : List (List AV))
  | own (p ver len : Nat)
  | osub (p ver off len : Nat)
  | ptr (p off : Nat)
  | eptr (p ver i k : Nat)
  | rptr (sz : Nat) (es : List (List AV)) (i k : Nat)
  deriving Inhabited

/-- A place of the abstract memory: nothing, a variable, an array of the call's own. -/
inductive Ent where
  | none
  | var (cells : List AV)
  | arr (cl : Bool) (ver sz : Nat) (cap : Option Nat) (es : List (List AV))
  deriving Inhabited

structure St where
  T : List AV
  H : List Ent

/-- What is known of a type. -/
inductive TK where
  | int (k : IntKind) | bool | str | slice (elem : Nat) | struct | other

structure TI where
  kind : TK
  size : Nat
  bytes : Nat
  zero : List AV
  fields : List (Nat × Nat × Bool)
  eq : Bool := false

abbrev TE := TypeId → Option TI

/-- A condition that can be decided. -/
structure DP where
  p : Prop
  d : Decidable p
def dp (c : Prop) [d : Decidable c] : DP := ⟨c, d⟩

structure Out where
  c : Option DP
  v : AV
  w : List (Nat × Ent)
  r : List Nat
  x : Option (Nat × Nat × Nat × Int) := none
  raw : Bool := false

def TK.isAgg : TK → Bool
  | .struct => true
  | .int _ => false
  | .bool => false
  | .str => false
  | .slice _ => false
  | .other => false

def andB : Bool → Bool → Bool
  | true, b => b
  | false, _ => false

def avOf : Value → AV
  | .bool b => .bool b
  | .int k n => .int k n
  | .string s => .str s
  | .slice none 0 0 => .sl 0 true []
  | _ => .junk

def ev (T : List AV) : Operand → AV
  | .tmp t => T.getD t .junk
  | .const v => avOf v
  | .func f => .fn f
  | .global _ => .junk

def lenLe {α : Type} : Nat → List α → Bool
  | 0, _ => true
  | _ + 1, [] => false
  | n + 1, _ :: l => lenLe n l

def lenEq {α : Type} : Nat → List α → Bool
  | 0, [] => true
  | 0, _ :: _ => false
  | _ + 1, [] => false
  | n + 1, _ :: l => lenEq n l

def leb : Nat → Nat → Bool
  | 0, _ => true
  | _ + 1, 0 => false
  | n + 1, m + 1 => leb n m

def eqb : Nat → Nat → Bool
  | 0, 0 => true
  | 0, _ + 1 => false
  | _ + 1, 0 => false
  | n + 1, m + 1 => eqb n m

def kn : IntKind → Nat
  | .i8 => 0 | .i16 => 1 | .i32 => 2 | .i64 => 3 | .u8 => 4 | .u16 => 5 | .u32 => 6 | .u64 => 7

/-- The cells of a value that may be stored. -/
def cellsOf : AV → Option (List AV)
  | .junk => none
  | .tup _ => none
  | .agg cs => some cs
  | .int k n => some [.int k n]
  | .bool b => some [.bool b]
  | .str s => some [.str s]
  | .fn f => some [.fn f]
  | .sl sz fr es => some [.sl sz fr es]
  | .own p v l => some [.own p v l]
  | .osub p v o l => some [.osub p v o l]
  | .ptr p o => some [.ptr p o]
  | .eptr p v i k => some [.eptr p v i k]
  | .rptr sz es i k => some [.rptr sz es i k]

/-- A value out of its cells. -/
def mkVal : Bool → List AV → AV
  | true, cs => .agg cs
  | false, cs => cs.getD 0 .junk

def setCells (cells : List AV) : Nat → List AV → List AV
  | _, [] => cells
  | off, v :: vs => setCells (cells.set off v) (off + 1) vs

/-- A cell of an element of a row. -/
def cellAt (es : List (List AV)) (i k : Nat) : AV := (es.getD i []).getD k .junk
def cellsFrom (es : List (List AV)) (i k : Nat) : Nat → List AV
  | 0 => []
  | n + 1 => cellAt es i k :: cellsFrom es i (k + 1) n

/-- What is stored away loses the right to be appended to. -/
def nf : AV → AV
  | .sl sz _ es => .sl sz false es
  | .junk => .junk
  | .int k n => .int k n
  | .bool b => .bool b
  | .str s => .str s
  | .fn f => .fn f
  | .agg cs => .agg cs
  | .tup vs => .tup vs
  | .own p v l => .own p v l
  | .osub p v o l => .osub p v o l
  | .ptr p o => .ptr p o
  | .eptr p v i k => .eptr p v i k
  | .rptr sz es i k => .rptr sz es i k
def nfs : List AV → List AV
  | [] => []
  | v :: vs => nf v :: nfs vs

/-- No place of the abstract memory is told. -/
def closed1 : AV → Bool
  | .junk => true
  | .int .. => true
  | .bool _ => true
  | .str _ => true
  | .fn _ => true
  | .sl .. => true
  | .agg _ => false
  | .tup _ => false
  | .own .. => false
  | .osub .. => false
  | .ptr .. => false
  | .eptr .. => false
  | .rptr .. => false
def closedAll : List AV → Bool
  | [] => true
  | v :: vs => andB (closed1 v) (closedAll vs)

def ret (v : AV) : Option Out := some ⟨none, v, [], [], none, false⟩
def retc (c : Prop) [d : Decidable c] (v : AV) : Option Out := some ⟨some ⟨c, d⟩, v, [], [], none, false⟩
def ifo {α : Type} : Bool → Option α → Option α
  | true, x => x
  | false, _ => none

def bytesAV (s : ByteArray) : List (List AV) := s.data.toList.map fun b => [.int .u8 (b.toNat : Int)]
def byteOf : List AV → UInt8
  | [.int _ n] => UInt8.ofNat n.toNat
  | _ => 0
def strOf (es : List (List AV)) : ByteArray := ⟨(es.map byteOf).toArray⟩
def isByteB : List AV → Bool
  | [.int .u8 n] => decide (0 ≤ n ∧ n < 256)
  | _ => false
def isByte (e : List AV) : Prop := isByteB e = true
instance (e : List AV) : Decidable (isByte e) := inferInstanceAs (Decidable (_ = true))
def sb (s : ByteArray) (i : Int) : Int := ((s.data.toList.getD i.toNat 0).toNat : Int)

def intBit (op : BinOp) (k : IntKind) (x y : Int) : Int :=
  let a := BitVec.ofInt k.bits x
  let b := BitVec.ofInt k.bits y
  match op with
  | .and => k.wrap (a &&& b).toNat
  | .or => k.wrap (a ||| b).toNat
  | .xor => k.wrap (a ^^^ b).toNat
  | _ => k.wrap (a &&& ~~~b).toNat

/-- At most: so that it goes through where one side is a variable's successor. -/
def leI : Int → Int → Bool
  | .ofNat m, .ofNat n => Nat.ble m n
  | .negSucc m, .negSucc n => Nat.ble n m
  | .negSucc _, .ofNat _ => true
  | .ofNat _, .negSucc _ => false
def evInt (k : IntKind) (a b : Int) : BinOp → Option Out
  | .add => ret (.int k (k.wrap (a + b)))
  | .sub => ret (.int k (k.wrap (a - b)))
  | .mul => ret (.int k (k.wrap (a * b)))
  | .quo => retc (b ≠ 0) (.int k (k.wrap (a.tdiv b)))
  | .rem => retc (b ≠ 0) (.int k (a.tmod b))
  | .and => ret (.int k (intBit .and k a b))
  | .or => ret (.int k (intBit .or k a b))
  | .xor => ret (.int k (intBit .xor k a b))
  | .andNot => ret (.int k (intBit .andNot k a b))
  | .eql => ret (.bool (a == b))
  | .neq => ret (.bool (a != b))
  | .lss => ret (.bool (!leI b a))
  | .leq => ret (.bool (leI a b))
  | .gtr => ret (.bool (!leI a b))
  | .geq => ret (.bool (leI b a))
  | .shl => none
  | .shr => none

def evShift (k : IntKind) (a b : Int) : BinOp → Option Out
  | .shl => retc (0 ≤ b) (.int k (k.wrap (a * 2 ^ (min b.toNat k.bits))))
  | .shr => retc (0 ≤ b) (.int k (a.fdiv (2 ^ (min b.toNat k.bits))))
  | _ => none

def isShift : BinOp → Bool
  | .shl => true
  | .shr => true
  | .add => false | .sub => false | .mul => false | .quo => false | .rem => false
  | .and => false | .or => false | .xor => false | .andNot => false
  | .eql => false | .neq => false | .lss => false | .leq => false | .gtr => false | .geq => false

def evStr (x y : ByteArray) : BinOp → Option Out
  | .add => retc (x.size + y.size ≤ 9223372036854775807) (.str (x ++ y))
  | .eql => ret (.bool (x.toList == y.toList))
  | .neq => ret (.bool !(x.toList == y.toList))
  | .lss => ret (.bool (Op.bytesLess x.toList y.toList))
  | .leq => ret (.bool (Op.bytesLess x.toList y.toList || x.toList == y.toList))
  | .gtr => ret (.bool !(Op.bytesLess x.toList y.toList || x.toList == y.toList))
  | .geq => ret (.bool !(Op.bytesLess x.toList y.toList))
  | _ => none

def evBl (a b : Bool) : BinOp → Option Out
  | .eql => ret (.bool (a == b))
  | .neq => ret (.bool !(a == b))
  | _ => none

def consEq (t : Bool) : Option Bool → Option Bool
  | some r => some (t && r)
  | none => none
/-- The cells of two structs, compared one by one; what the zero has in a cell says of what kind it is. -/
def eqCells : List AV → List AV → List AV → Option Bool
  | [], [], [] => some true
  | .int _ _ :: zs, .int k a :: xs, .int l b :: ys => ifo (eqb (kn k) (kn l)) (consEq (a == b) (eqCells zs xs ys))
  | .str _ :: zs, .str a :: xs, .str b :: ys => consEq (a.toList == b.toList) (eqCells zs xs ys)
  | .bool _ :: zs, .bool a :: xs, .bool b :: ys => consEq (a == b) (eqCells zs xs ys)
  | _, _, _ => none
def evAggEq : BinOp → Option Bool → Option Out
  | .eql, some b => ret (.bool b)
  | .neq, some b => ret (.bool !b)
  | _, _ => none

def evBinI (op : BinOp) (k : IntKind) (a : Int) (k' : IntKind) (b : Int) : Bool → Option Out
  | true => evShift k a b op
  | false => ifo (eqb (kn k) (kn k')) (evInt k a b op)

def blK (op : BinOp) (a b : Bool) : TK → Option Out
  | .bool => evBl a b op
  | _ => none
def evBlT (op : BinOp) (a b : Bool) : Option TI → Option Out
  | some i => blK op a b i.kind
  | none => none
def evAggT (op : BinOp) (cs ds : List AV) : Option TI → Option Out
  | some i => ifo i.eq (evAggEq op (eqCells i.zero cs ds))
  | none => none
def evBin (op : BinOp) (ti : Option TI) : AV → AV → Option Out
  | .int k a, .int k' b => evBinI op k a k' b (isShift op)
  | .str a, .str b => evStr a b op
  | .bool a, .bool b => evBlT op a b ti
  | .agg cs, .agg ds => evAggT op cs ds ti
  | _, _ => none

def evUn : UnOp → AV → Option Out
  | .not, .bool b => ret (.bool !b)
  | .neg, .int k n => ret (.int k (k.wrap (0 - n)))
  | _, _ => none

def isU8K : TK → Bool
  | .int k => eqb (kn k) 4
  | _ => false
def isU8 : Option TI → Bool
  | some i => isU8K i.kind
  | none => false
def evConv (te : TE) : TK → TK → AV → Option Out
  | _, .int k, .int _ n => ret (.int k (k.wrap n))
  | _, .str, .str x => ret (.str x)
  | .slice e, .str, .sl sz _ es => ifo (andB (isU8 (te e)) (eqb sz 1)) (retc (∀ e ∈ es, isByte e) (.str (strOf es)))
  | _, .slice e, .str x => ifo (isU8 (te e)) (retc (x.size ≤ 140737488355328) (.sl 1 false (bytesAV x)))
  | _, _, _ => none

def loadV (agg : Bool) (n q off : Nat) (cells : List AV) : Option Out := ifo (lenLe (off + n) cells) (some ⟨none, mkVal agg ((cells.drop off).take n), [], [q], none, false⟩)
def loadP (agg : Bool) (n q off : Nat) : Ent → Option Out
  | .var cells => loadV agg n q off cells
  | _ => none
def loadE (agg : Bool) (n q ver i k : Nat) : Ent → Option Out
  | .arr cl v sz _ es => ifo (leb (k + n) sz) (some ⟨some (dp (v = ver ∧ i < es.length)), mkVal agg (cellsFrom es i k n), [], [q], none, cl⟩)
  | _ => none
def evLoad (H : List Ent) (agg : Bool) (n : Nat) : AV → Option Out
  | .ptr q off => loadP agg n q off (H.getD q .none)
  | .eptr q ver i k => loadE agg n q ver i k (H.getD q .none)
  | .rptr sz es i k => ifo (leb (k + n) sz) (some ⟨none, mkVal agg (cellsFrom es i k n), [], [], none, true⟩)
  | _ => none

def storeP (n q off : Nat) (cs : List AV) : Ent → Option Out
  | .var cells => ifo (andB (lenEq n cs) (lenLe (off + n) cells)) (some ⟨none, .junk, [(q, .var (setCells cells off cs))], [q], none, false⟩)
  | _ => none
def storeE (n q ver i k : Nat) (cs : List AV) : Ent → Option Out
  | .arr cl v sz cap es => ifo (andB (lenEq n cs) (leb (k + n) sz))
      (some ⟨some (dp (v = ver ∧ i < es.length)), .junk, [(q, .arr (andB cl (closedAll cs)) v sz cap (es.set i (setCells (es.getD i []) k (nfs cs))))], [q], none, false⟩)
  | _ => none
def evStore (H : List Ent) (n : Nat) : Option (List AV) → AV → Option Out
  | some cs, .ptr q off => storeP n q off cs (H.getD q .none)
  | some cs, .eptr q ver i k => storeE n q ver i k cs (H.getD q .none)
  | _, _ => none

def evFieldAddr (off : Nat) : AV → Option Out
  | .ptr q o => ret (.ptr q (o + off))
  | .eptr q ver i k => ret (.eptr q ver i (k + off))
  | .rptr sz es i k => ret (.rptr sz es i (k + off))
  | _ => none

def evField (off n : Nat) (agg : Bool) : AV → Option Out
  | .agg cs => ifo (lenLe (off + n) cs) (ret (mkVal agg ((cs.drop off).take n)))
  | _ => none

/-- An element of an array of the call's own has so many cells. -/
def esz1 (esz : Nat) : Ent → Bool
  | .arr _ _ sz _ _ => eqb sz esz
  | _ => false
def evIndexAddr (H : List Ent) (esz : Nat) : AV → AV → Option Out
  | .int _ n, .sl sz _ es => ifo (eqb sz esz) (retc (0 ≤ n ∧ n < es.length) (.rptr sz es n.toNat 0))
  | .int _ n, .own q ver len => ifo (esz1 esz (H.getD q .none)) (retc (0 ≤ n ∧ n < len) (.eptr q ver n.toNat 0))
  | .int _ n, .osub q ver off len => ifo (esz1 esz (H.getD q .none)) (retc (0 ≤ n ∧ n < len) (.eptr q ver (off + n.toNat) 0))
  | _, _ => none

def evIndex : AV → AV → Option Out
  | .int _ n, .str s => retc (0 ≤ n ∧ n < s.size) (.int .u8 (sb s n))
  | _, _ => none

def evExtract (i : Nat) : AV → Option Out
  | .tup vs => ifo (lenLe (i + 1) vs) (ret (vs.getD i .junk))
  | _ => none

/-- Parts of a struct, put into its cells: each by its field's place. -/
def fillPart (fields : List (Nat × Nat × Bool)) (cells : List AV) (i : Nat) : Option (List AV) → Option (List AV)
  | some cs => ifo (andB (lenLe (i + 1) fields) (andB (lenEq (fields.getD i (0, 0, false)).2.1 cs) (lenLe ((fields.getD i (0, 0, false)).1 + (fields.getD i (0, 0, false)).2.1) cells)))
      (some (setCells cells (fields.getD i (0, 0, false)).1 cs))
  | none => none
def fillParts (fields : List (Nat × Nat × Bool)) (E : Operand → AV) : List (Nat × Operand) → Option (List AV) → Option (List AV)
  | [], r => r
  | _ :: _, none => none
  | (i, x) :: rest, some cells => fillParts fields E rest (fillPart fields cells i (cellsOf (E x)))
def evBuild : Option (List AV) → Option Out
  | some cs => ret (.agg cs)
  | none => none

/-- The elements of a literal. -/
def impB : Bool → Bool → Bool
  | true, b => b
  | false, _ => true
def fillElem (cl : Bool) (n : Nat) (es : List (List AV)) (i : Nat) : Option (List AV) → Option (List (List AV))
  | some cs => ifo (andB (lenLe (i + 1) es) (andB (lenEq n cs) (impB cl (closedAll cs)))) (some (es.set i (nfs cs)))
  | none => none
def fillElems (cl : Bool) (E : Operand → AV) (n : Nat) : List (Nat × Operand) → Option (List (List AV)) → Option (List (List AV))
  | [], r => r
  | _ :: _, none => none
  | (i, x) :: rest, some es => fillElems cl E n rest (fillElem cl n es i (cellsOf (E x)))
def repl : Nat → List AV → List (List AV)
  | 0, _ => []
  | n + 1, z => z :: repl n z
def evLit (n size : Nat) : Option (List (List AV)) → Option Out
  | some es => ifo (andB (leb n 1000) (leb size 1000)) (ret (.sl size true es))
  | none => none

/-- A literal whose elements name the abstract memory: an array of the call's own. -/
def litOwn (p n size : Nat) : Option (List (List AV)) → Option Out
  | some es => ifo (andB (leb 1 n) (andB (leb n 1000) (leb size 1000))) (some ⟨none, .own p 1 n, [(p, .arr false 1 size none es)], [], none, false⟩)
  | none => none
def orLit : Option Out → Option Out → Option Out
  | some x, _ => some x
  | none, y => y

def optV : AV → Option (Option Int)
  | .int _ n => some (some n)
  | _ => none
def optInt (E : Operand → AV) : Option Operand → Option (Option Int)
  | none => some none
  | some x => optV (E x)

def sameConst : Option Operand → Option Operand → Bool
  | some (.const (.int _ (.ofNat a))), some (.const (.int _ (.ofNat b))) => eqb a b
  | _, _ => false

def slLo : Option Int → Int
  | some n => n
  | none => 0
def slHi (len : Int) : Option Int → Int
  | some n => n
  | none => len
def slStr (s : ByteArray) : Option (Option Int) → Option (Option Int) → Option (Option Int) → Option Out
  | some l, some h, some none => retc (0 ≤ slLo l ∧ slLo l ≤ slHi s.size h ∧ slHi s.size h ≤ s.size) (.str (s.extract (slLo l).toNat (slHi s.size h).toNat))
  | _, _, _ => none
def slSl (sz : Nat) (es : List (List AV)) (same : Bool) : Option (Option Int) → Option (Option Int) → Option (Option Int) → Option Out
  | some l, some h, some none => retc (0 ≤ slLo l ∧ slLo l ≤ slHi es.length h ∧ slHi es.length h ≤ es.length) (.sl sz false ((es.drop (slLo l).toNat).take ((slHi es.length h).toNat - (slLo l).toNat)))
  | some l, some (some h), some (some m) => retc (0 ≤ slLo l ∧ slLo l ≤ h ∧ h ≤ m ∧ m ≤ es.length) (.sl sz same ((es.drop (slLo l).toNat).take (h.toNat - (slLo l).toNat)))
  | _, _, _ => none
def slOwn (whole : Bool) (q ver off len : Nat) : Option (Option Int) → Option (Option Int) → Option (Option Int) → Option Out
  | some l, some h, some none => some ⟨some (dp (0 ≤ slLo l ∧ slLo l ≤ slHi len h ∧ slHi len h ≤ len)), .osub q ver (off + (slLo l).toNat) ((slHi len h).toNat - (slLo l).toNat), [], [], none, false⟩
  | some l, some (some h), some (some m) => retc (0 ≤ slLo l ∧ slLo l ≤ h ∧ h ≤ m ∧ m ≤ len) .junk
  | _, _, _ => none

/-- How far a part of an array may be cut anew: to the array's own length. -/
def limE (ver off len : Nat) : Ent → Nat
  | .arr _ v _ _ es => limB len (es.length - off) (Nat.beq v ver)
  | _ => len
where limB (a b : Nat) : Bool → Nat
  | true => if a ≤ b then b else a
  | false => a
def slSub (q ver off len : Nat) (e : Ent) : Option (Option Int) → Option (Option Int) → Option (Option Int) → Option Out
  | some l, some h, some none => some ⟨some (dp (0 ≤ slLo l ∧ slLo l ≤ slHi len h ∧ slHi len h ≤ limE ver off len e)), .osub q ver (off + (slLo l).toNat) ((slHi len h).toNat - (slLo l).toNat), [], [], none, false⟩
  | _, _, _ => none

def evSlice (H : List Ent) (E : Operand → AV) (esz : Nat) (lo hi mx : Option Operand) : AV → Option Out
  | .sl sz _ es => ifo (eqb sz esz) (slSl sz es (sameConst hi mx) (optInt E lo) (optInt E hi) (optInt E mx))
  | .own q ver len => ifo (esz1 esz (H.getD q .none)) (slOwn true q ver 0 len (optInt E lo) (optInt E hi) (optInt E mx))
  | .osub q ver off len => ifo (esz1 esz (H.getD q .none)) (slSub q ver off len (H.getD q .none) (optInt E lo) (optInt E hi) (optInt E mx))
  | _ => none
def evSliceS (E : Operand → AV) (lo hi mx : Option Operand) : AV → Option Out
  | .str s => slStr s (optInt E lo) (optInt E hi) (optInt E mx)
  | _ => none

/-- What a slice or a string holds: a condition, the size of an element, whether it holds no place of the abstract memory, the elements, the places that are read. -/
structure Cont where
  c : Option DP
  sz : Nat
  cl : Bool
  es : List (List AV)
  r : List Nat

def contO (q ver len : Nat) : Ent → Option Cont
  | .arr cl v sz _ es => some ⟨some (dp (v = ver ∧ len = es.length)), sz, cl, es, [q]⟩
  | _ => none
def contS (q ver off len : Nat) : Ent → Option Cont
  | .arr cl v sz _ es => some ⟨some (dp (v = ver ∧ off + len ≤ es.length)), sz, cl, (es.drop off).take len, [q]⟩
  | _ => none
def contents (H : List Ent) : AV → Option Cont
  | .sl sz _ es => some ⟨none, sz, true, es, []⟩
  | .own q ver len => contO q ver len (H.getD q .none)
  | .osub q ver off len => contS q ver off len (H.getD q .none)
  | .str s => some ⟨none, 1, true, bytesAV s, []⟩
  | _ => none

def andO : Option DP → DP → DP
  | none, b => b
  | some a, b => ⟨a.p ∧ b.p, match a.d, b.d with
    | .isTrue h, .isTrue k => .isTrue ⟨h, k⟩
    | .isFalse h, _ => .isFalse fun x => h x.1
    | _, .isFalse k => .isFalse fun x => k x.2⟩

def room (n bytes : Nat) : Prop := n * bytes ≤ 140737488355328
instance (n bytes : Nat) : Decidable (room n bytes) := inferInstanceAs (Decidable (_ ≤ _))

/-- An empty row has whatever size. -/
def fits (sz esz : Nat) : List (List AV) → Bool
  | [] => true
  | _ :: _ => eqb sz esz

/-- append. -/
def appF (p esz bytes xsz : Nat) (es : List (List AV)) : Option Cont → Option Out
  | some ⟨c, sz, cl, ys, r⟩ => some ⟨some (andO c (dp ((fits sz esz ys = true ∧ fits xsz esz es = true) ∧ (es = [] ∨ ys ≠ []) ∧ room (es.length + ys.length) bytes))), .own p 1 (es.length + ys.length), [(p, .arr cl 1 esz none (es ++ ys))], r, none, false⟩
  | none => none
def appO (q ver len esz bytes : Nat) : Ent → Option Cont → Option Out
  | .arr cl' v qsz _ es, some ⟨c, sz, cl, ys, r⟩ => ifo (eqb qsz esz)
      (some ⟨some (andO c (dp (fits sz esz ys = true ∧ v = ver ∧ len = es.length ∧ room (es.length + ys.length) bytes))), .own q (v + 1) (es.length + ys.length), [(q, .arr (andB cl cl') (v + 1) esz none (es ++ ys))], q :: r, none, false⟩)
  | _, _ => none
def evAppend (p : Nat) (H : List Ent) (esz bytes : Nat) : AV → Option Cont → Option Out
  | .sl xsz true es, k => appF p esz bytes xsz es k
  | .own q ver len, k => appO q ver len esz bytes (H.getD q .none) k
  | _, _ => none

/-- append to a part of an array, within the array. -/
def appI (q ver off len esz : Nat) : Ent → Option Cont → Option Out
  | .arr cl' v qsz cap es, some ⟨c, sz, cl, ys, r⟩ => ifo (eqb qsz esz)
      (some ⟨some (andO c (dp (fits sz esz ys = true ∧ v = ver ∧ off = 0 ∧ len + ys.length ≤ es.length))), .osub q ver 0 (len + ys.length),
        [(q, .arr (andB cl cl') v esz cap (es.take len ++ ys ++ es.drop (len + ys.length)))], q :: r, none, false⟩)
  | _, _ => none
def evAppendIn (H : List Ent) (esz : Nat) : AV → Option Cont → Option Out
  | .osub q ver off len, k => appI q ver off len esz (H.getD q .none) k
  | _, _ => none

/-- append to a part of an array, past the array's capacity: a new one. -/
def appX (p q ver off len esz bytes : Nat) : Ent → Option Cont → Option Out
  | .arr cl' v qsz (some cap) es, some ⟨c, sz, cl, ys, r⟩ => ifo (eqb qsz esz)
      (some ⟨some (andO c (dp (fits sz esz ys = true ∧ v = ver ∧ off = 0 ∧ len ≤ es.length ∧ cap < len + ys.length ∧ room (len + ys.length) bytes))), .own p 1 (len + ys.length),
        [(p, .arr (andB cl cl') 1 esz none (es.take len ++ ys))], q :: r, none, false⟩)
  | _, _ => none
def evAppendOut (p : Nat) (H : List Ent) (esz bytes : Nat) : AV → Option Cont → Option Out
  | .osub q ver off len, k => appX p q ver off len esz bytes (H.getD q .none) k
  | _, _ => none

def lenOK (len n : Nat) : Bool → Nat → Prop
  | true, _ => len = n
  | false, off => off + len ≤ n
instance (len n : Nat) : (b : Bool) → (off : Nat) → Decidable (lenOK len n b off)
  | true, _ => inferInstanceAs (Decidable (_ = _))
  | false, _ => inferInstanceAs (Decidable (_ ≤ _))
def copyTo (esz q ver off len : Nat) (whole : Bool) : Ent → Option Cont → Option Out
  | .arr cl' v qsz cap es, some ⟨c, sz, cl, ys, r⟩ => ifo (eqb qsz esz)
      (some ⟨some (andO c (dp (fits sz esz ys = true ∧ v = ver ∧ lenOK len es.length whole off))), .int .i64 ((min ys.length len : Nat) : Int),
        [(q, .arr (andB cl cl') v qsz cap (es.take off ++ ys.take (min ys.length len) ++ es.drop (off + min ys.length len)))], q :: r, none, false⟩)
  | _, _ => none
def evCopy (H : List Ent) (esz : Nat) : AV → Option Cont → Option Out
  | .own q ver len, k => copyTo esz q ver 0 len true (H.getD q .none) k
  | .osub q ver off len, k => copyTo esz q ver off len false (H.getD q .none) k
  | _, _ => none

def clearE (zero : List AV) (q ver off len : Nat) : Ent → Option Out
  | .arr cl v sz cap es => ifo (andB (lenEq sz zero) (closedAll zero)) (some ⟨some (dp (v = ver ∧ off + len ≤ es.length)), .tup [], [(q, .arr cl v sz cap (es.take off ++ List.replicate len (nfs zero) ++ es.drop (off + len)))], [q], none, false⟩)
  | _ => none
def evClear (H : List Ent) (zero : List AV) : AV → Option Out
  | .osub q ver off len => clearE zero q ver off len (H.getD q .none)
  | _ => none

def evMax : AV → AV → Option Out
  | .int k a, .int l b => ifo (eqb (kn k) (kn l)) (ret (.int k (if b > a then b else a)))
  | _, _ => none
def evMin : AV → AV → Option Out
  | .int k a, .int l b => ifo (eqb (kn k) (kn l)) (ret (.int k (if b < a then b else a)))
  | _, _ => none

def evLen : TK → AV → Option Out
  | .slice _, .sl _ _ es => ret (.int .i64 (es.length : Int))
  | .slice _, .own _ _ len => ret (.int .i64 (len : Int))
  | .slice _, .osub _ _ _ len => ret (.int .i64 (len : Int))
  | .str, .str s => ret (.int .i64 (s.size : Int))
  | _, _ => none
def evLenT (x : AV) : Option TI → Option Out
  | some i => evLen i.kind x
  | none => none

def evMake (p size bytes : Nat) (zero : List AV) : AV → AV → Option Out
  | .int .i64 n, .int .i64 m => ifo (closedAll zero) (some ⟨some (dp (n = m ∧ 0 ≤ n ∧ n * bytes ≤ 140737488355328)), .own p 1 n.toNat, [(p, .arr true 1 size none (List.replicate n.toNat (nfs zero)))], [], none, false⟩)
  | _, _ => none

/-- The element type of a slice type. -/
def elemK (te : TE) : TK → Option TI
  | .slice e => te e
  | _ => none
def elemI (te : TE) : Option TI → Option TI
  | some i => elemK te i.kind
  | none => none

def zerosC (size bytes : Nat) (zero : List AV) : AV → Option Cont
  | .int .i64 n => ifo (closedAll zero) (some ⟨some (dp (0 ≤ n ∧ n * bytes ≤ 140737488355328)), size, true, List.replicate n.toNat (nfs zero), []⟩)
  | _ => none
/-- What append's second argument brings: a slice, a string, or so many zeros. -/
def appK (H : List Ent) (i : TI) : TK → AV → Option Cont
  | .int _, y => zerosC i.size i.bytes i.zero y
  | .slice _, y => contents H y
  | .str, y => contents H y
  | _, _ => none
def appArg (H : List Ent) (i : TI) : Option TI → AV → Option Cont
  | some k, y => appK H i k.kind y
  | none, _ => none
def evApp (p : Nat) (H : List Ent) (t2 : Option TI) (x y : AV) : Option TI → Option Out
  | some i => evAppend p H i.size i.bytes x (appArg H i t2 y)
  | none => none
def evCp (H : List Ent) (x y : AV) : Option TI → Option Out
  | some i => evCopy H i.size x (contents H y)
  | none => none
def evCl (H : List Ent) (x : AV) : Option TI → Option Out
  | some i => evClear H i.zero x
  | none => none

def evBuiltin (te : TE) (p : Nat) (E : Operand → AV) (H : List Ent) : Builtin → List Operand → List TypeId → Option Out
  | .len, [x], [t] => evLenT (E x) (te t)
  | .max, [x, y], _ => evMax (E x) (E y)
  | .min, [x, y], _ => evMin (E x) (E y)
  | .append, [x, y], [t, u] => evApp p H (te u) (E x) (E y) (elemI te (te t))
  | .copy, [x, y], [t, _] => evCp H (E x) (E y) (elemI te (te t))
  | .clear, [x], [t] => evCl H (E x) (elemI te (te t))
  | _, _, _ => none

/-- A pointer that leads somewhere is not nil. -/
def evNil : AV → Option Out
  | .ptr q off => ret (.ptr q off)
  | .eptr q v i k => ret (.eptr q v i k)
  | .rptr sz es i k => ret (.rptr sz es i k)
  | _ => none
def evPick (a b : AV) : AV → Option Out
  | .bool true => ret a
  | .bool false => ret b
  | _ => none
def evAlloc (p : Nat) : Option TI → Option Out
  | some i => some ⟨none, .ptr p 0, [(p, .var i.zero)], [], none, false⟩
  | none => none
def evBox (p : Nat) : Option TI → Option (List AV) → Option Out
  | some i, some cs => ifo (lenEq i.size cs) (some ⟨none, .ptr p 0, [(p, .var cs)], [], none, false⟩)
  | _, _ => none
def buildK (E : Operand → AV) (parts : List (Nat × Operand)) (i : TI) : Bool → Option Out
  | true => evBuild (fillParts i.fields E parts (some i.zero))
  | false => none
def evBuildT (E : Operand → AV) (parts : List (Nat × Operand)) : Option TI → Option Out
  | some i => buildK E parts i i.kind.isAgg
  | none => none
def evLitT (p : Nat) (E : Operand → AV) (n : Nat) (parts : List (Nat × Operand)) : Option TI → Option Out
  | some i => orLit (evLit n i.size (fillElems true E i.size parts (some (repl n (nfs i.zero))))) (litOwn p n i.size (fillElems false E i.size parts (some (repl n (nfs i.zero)))))
  | none => none
def evLoadT (H : List Ent) (a : AV) : Option TI → Option Out
  | some i => evLoad H i.kind.isAgg i.size a
  | none => none
def evStoreT (H : List Ent) (x a : AV) : Option TI → Option Out
  | some i => evStore H i.size (cellsOf x) a
  | none => none
def evConvT (te : TE) (x : AV) : Option TI → Option TI → Option Out
  | some i, some j => evConv te i.kind j.kind x
  | _, _ => none
def evMakeT (p : Nat) (l c : AV) : Option TI → Option Out
  | some i => evMake p i.size i.bytes i.zero l c
  | none => none
def sliceE (H : List Ent) (E : Operand → AV) (x : AV) (lo hi mx : Option Operand) : Option TI → Option Out
  | some i => evSlice H E i.size lo hi mx x
  | none => none
def sliceK (te : TE) (H : List Ent) (E : Operand → AV) (x : AV) (lo hi mx : Option Operand) : TK → Option Out
  | .slice e => sliceE H E x lo hi mx (te e)
  | .str => evSliceS E lo hi mx x
  | _ => none
def evSliceT (te : TE) (H : List Ent) (E : Operand → AV) (x : AV) (lo hi mx : Option Operand) : Option TI → Option Out
  | some i => sliceK te H E x lo hi mx i.kind
  | none => none
def evFieldAddrT (x : AV) (f : Nat) : Option TI → Option Out
  | some i => ifo (lenLe (f + 1) i.fields) (evFieldAddr (i.fields.getD f (0, 0, false)).1 x)
  | none => none
def evFieldT (x : AV) (f : Nat) : Option TI → Option Out
  | some i => ifo (lenLe (f + 1) i.fields) (evField (i.fields.getD f (0, 0, false)).1 (i.fields.getD f (0, 0, false)).2.1 (i.fields.getD f (0, 0, false)).2.2 x)
  | none => none
def evIndexAddrT (H : List Ent) (ix x : AV) : Option TI → Option Out
  | some i => evIndexAddr H i.size ix x
  | none => none
def indexK (ix x : AV) : TK → Option Out
  | .str => evIndex ix x
  | _ => none
def evIndexT (ix x : AV) : Option TI → Option Out
  | some i => indexK ix x i.kind
  | none => none

/-- What an operation comes to; 'p' is the place that it may take for what it makes. -/
def evOpE (te : TE) (p : Nat) (E : Operand → AV) (H : List Ent) : Op → Option Out
  | .move x => ret (E x)
  | .assign x => ret (E x)
  | .pick c a b => evPick (E a) (E b) (E c)
  | .alloc t => evAlloc p (te t)
  | .box t x => evBox p (te t) (cellsOf (E x))
  | .build t parts => evBuildT E parts.toList (te t)
  | .buildSlice t n parts => evLitT p E n parts.toList (elemI te (te t))
  | .load t a => evLoadT H (E a) (te t)
  | .store t a x => evStoreT H (E x) (E a) (te t)
  | .binOp op t x y _ => evBin op (te t) (E x) (E y)
  | .unOp op _ x => evUn op (E x)
  | .convert s d x => evConvT te (E x) (te s) (te d)
  | .makeSlice t l c => evMakeT p (E l) (E c) (elemI te (te t))
  | .slice t x lo hi mx => evSliceT te H E (E x) lo hi mx (te t)
  | .fieldAddr t x f => evFieldAddrT (E x) f (te t)
  | .field t x f => evFieldT (E x) f (te t)
  | .indexAddr t x ix => evIndexAddrT H (E ix) (E x) (elemI te (te t))
  | .index t x ix => evIndexT (E ix) (E x) (te t)
  | .extract x i => evExtract i (E x)
  | .nilCheck x => evNil (E x)
  | .call ⟨.builtin b, args, tys⟩ => evBuiltin te p E H b args.toList tys.toList
  | _ => none

def evOp (te : TE) (p : Nat) (T : List AV) (H : List Ent) (op : Op) : Option Out := evOpE te p (ev T) H op

end Go.Rf
