/-
  Texts of the proof, put together: Rf1, Rf2, Rf3, Rf4, Rf5, Rf6, Rf7, Rf8, Rf9, RfA.
-/
import Derived.WalkKit
import Derived.Below
import Derived.Orders
import Derived.Laws.StructEq
import Derived.Laws.Small
import Derived.Laws.Slices
import Derived.Laws.BytesArg
import Derived.Laws.MakeOwn
import Derived.Lib.ConvBytes
/-
  A SYMBOLIC EXECUTOR FOR THE MODEL'S CODE, part 1: abstract values, abstract memory, and what each operation comes to. Plain definitions, each by patterns on its arguments (so that 'dsimp' runs them from the inside out).
-/
section
set_option linter.unusedVariables false
namespace Go.Rf

/-- Abstract values. A slice that is only read is told by its elements, each a row of cells; a slice of the call's own by a place in the abstract memory. -/
inductive AV where
  | junk
  | int (k : IntKind) (n : Int)
  | bool (b : Bool)
  | str (s : ByteArray)
  | fn (f : FuncId)
  | agg (cs : List AV)
  | tup (vs : List AV)
  | sl (sz : Nat) (fresh : Bool) (es : List (List AV))
  | own (p ver len : Nat)
  | osub (p ver off len : Nat)
  | ptr (p off : Nat)
  | eptr (p ver i k : Nat)
  | rptr (sz : Nat) (es : List (List AV)) (i k : Nat)
  deriving Inhabited

/-- A place of the abstract memory: nothing, a variable, an array of the call's own. -/
inductive Ent where
  | none
  | var (cells : List AV)
  | arr (cl : Bool) (ver sz : Nat) (cap : Option Nat) (es : List (List AV))
  deriving Inhabited

structure St where
  T : List AV
  H : List Ent

/-- What is known of a type. -/
inductive TK where
  | int (k : IntKind) | bool | str | slice (elem : Nat) | struct | other

structure TI where
  kind : TK
  size : Nat
  bytes : Nat
  zero : List AV
  fields : List (Nat × Nat × Bool)
  eq : Bool := false

abbrev TE := TypeId → Option TI

/-- A condition that can be decided. -/
structure DP where
  p : Prop
  d : Decidable p
def dp (c : Prop) [d : Decidable c] : DP := ⟨c, d⟩

structure Out where
  c : Option DP
  v : AV
  w : List (Nat × Ent)
  r : List Nat
  x : Option (Nat × Nat × Nat × Int) := none
  raw : Bool := false

def TK.isAgg : TK → Bool
  | .struct => true
  | .int _ => false
  | .bool => false
  | .str => false
  | .slice _ => false
  | .other => false

def andB : Bool → Bool → Bool
  | true, b => b
  | false, _ => false

def avOf : Value → AV
  | .bool b => .bool b
  | .int k n => .int k n
  | .string s => .str s
  | .slice none 0 0 => .sl 0 true []
  | _ => .junk

def ev (T : List AV) : Operand → AV
  | .tmp t => T.getD t .junk
  | .const v => avOf v
  | .func f => .fn f
  | .global _ => .junk

def lenLe {α : Type} : Nat → List α → Bool
  | 0, _ => true
  | _ + 1, [] => false
  | n + 1, _ :: l => lenLe n l

def lenEq {α : Type} : Nat → List α → Bool
  | 0, [] => true
  | 0, _ :: _ => false
  | _ + 1, [] => false
  | n + 1, _ :: l => lenEq n l

def leb : Nat → Nat → Bool
  | 0, _ => true
  | _ + 1, 0 => false
  | n + 1, m + 1 => leb n m

def eqb : Nat → Nat → Bool
  | 0, 0 => true
  | 0, _ + 1 => false
  | _ + 1, 0 => false
  | n + 1, m + 1 => eqb n m

def kn : IntKind → Nat
  | .i8 => 0 | .i16 => 1 | .i32 => 2 | .i64 => 3 | .u8 => 4 | .u16 => 5 | .u32 => 6 | .u64 => 7

/-- The cells of a value that may be stored. -/
def cellsOf : AV → Option (List AV)
  | .junk => none
  | .tup _ => none
  | .agg cs => some cs
  | .int k n => some [.int k n]
  | .bool b => some [.bool b]
  | .str s => some [.str s]
  | .fn f => some [.fn f]
  | .sl sz fr es => some [.sl sz fr es]
  | .own p v l => some [.own p v l]
  | .osub p v o l => some [.osub p v o l]
  | .ptr p o => some [.ptr p o]
  | .eptr p v i k => some [.eptr p v i k]
  | .rptr sz es i k => some [.rptr sz es i k]

/-- A value out of its cells. -/
def mkVal : Bool → List AV → AV
  | true, cs => .agg cs
  | false, cs => cs.getD 0 .junk

def setCells (cells : List AV) : Nat → List AV → List AV
  | _, [] => cells
  | off, v :: vs => setCells (cells.set off v) (off + 1) vs

/-- A cell of an element of a row. -/
def cellAt (es : List (List AV)) (i k : Nat) : AV := (es.getD i []).getD k .junk
def cellsFrom (es : List (List AV)) (i k : Nat) : Nat → List AV
  | 0 => []
  | n + 1 => cellAt es i k :: cellsFrom es i (k + 1) n

/-- What is stored away loses the right to be appended to. -/
def nf : AV → AV
  | .sl sz _ es => .sl sz false es
  | .junk => .junk
  | .int k n => .int k n
  | .bool b => .bool b
  | .str s => .str s
  | .fn f => .fn f
  | .agg cs => .agg cs
  | .tup vs => .tup vs
  | .own p v l => .own p v l
  | .osub p v o l => .osub p v o l
  | .ptr p o => .ptr p o
  | .eptr p v i k => .eptr p v i k
  | .rptr sz es i k => .rptr sz es i k
def nfs : List AV → List AV
  | [] => []
  | v :: vs => nf v :: nfs vs

/-- No place of the abstract memory is told. -/
def closed1 : AV → Bool
  | .junk => true
  | .int .. => true
  | .bool _ => true
  | .str _ => true
  | .fn _ => true
  | .sl .. => true
  | .agg _ => false
  | .tup _ => false
  | .own .. => false
  | .osub .. => false
  | .ptr .. => false
  | .eptr .. => false
  | .rptr .. => false
def closedAll : List AV → Bool
  | [] => true
  | v :: vs => andB (closed1 v) (closedAll vs)

def ret (v : AV) : Option Out := some ⟨none, v, [], [], none, false⟩
def retc (c : Prop) [d : Decidable c] (v : AV) : Option Out := some ⟨some ⟨c, d⟩, v, [], [], none, false⟩
def ifo {α : Type} : Bool → Option α → Option α
  | true, x => x
  | false, _ => none

def bytesAV (s : ByteArray) : List (List AV) := s.data.toList.map fun b => [.int .u8 (b.toNat : Int)]
def byteOf : List AV → UInt8
  | [.int _ n] => UInt8.ofNat n.toNat
  | _ => 0
def strOf (es : List (List AV)) : ByteArray := ⟨(es.map byteOf).toArray⟩
def isByteB : List AV → Bool
  | [.int .u8 n] => decide (0 ≤ n ∧ n < 256)
  | _ => false
def isByte (e : List AV) : Prop := isByteB e = true
instance (e : List AV) : Decidable (isByte e) := inferInstanceAs (Decidable (_ = true))
def sb (s : ByteArray) (i : Int) : Int := ((s.data.toList.getD i.toNat 0).toNat : Int)

def intBit (op : BinOp) (k : IntKind) (x y : Int) : Int :=
  let a := BitVec.ofInt k.bits x
  let b := BitVec.ofInt k.bits y
  match op with
  | .and => k.wrap (a &&& b).toNat
  | .or => k.wrap (a ||| b).toNat
  | .xor => k.wrap (a ^^^ b).toNat
  | _ => k.wrap (a &&& ~~~b).toNat

/-- At most: so that it goes through where one side is a variable's successor. -/
def leI : Int → Int → Bool
  | .ofNat m, .ofNat n => Nat.ble m n
  | .negSucc m, .negSucc n => Nat.ble n m
  | .negSucc _, .ofNat _ => true
  | .ofNat _, .negSucc _ => false
def evInt (k : IntKind) (a b : Int) : BinOp → Option Out
  | .add => ret (.int k (k.wrap (a + b)))
  | .sub => ret (.int k (k.wrap (a - b)))
  | .mul => ret (.int k (k.wrap (a * b)))
  | .quo => retc (b ≠ 0) (.int k (k.wrap (a.tdiv b)))
  | .rem => retc (b ≠ 0) (.int k (a.tmod b))
  | .and => ret (.int k (intBit .and k a b))
  | .or => ret (.int k (intBit .or k a b))
  | .xor => ret (.int k (intBit .xor k a b))
  | .andNot => ret (.int k (intBit .andNot k a b))
  | .eql => ret (.bool (a == b))
  | .neq => ret (.bool (a != b))
  | .lss => ret (.bool (!leI b a))
  | .leq => ret (.bool (leI a b))
  | .gtr => ret (.bool (!leI a b))
  | .geq => ret (.bool (leI b a))
  | .shl => none
  | .shr => none

def evShift (k : IntKind) (a b : Int) : BinOp → Option Out
  | .shl => retc (0 ≤ b) (.int k (k.wrap (a * 2 ^ (min b.toNat k.bits))))
  | .shr => retc (0 ≤ b) (.int k (a.fdiv (2 ^ (min b.toNat k.bits))))
  | _ => none

def isShift : BinOp → Bool
  | .shl => true
  | .shr => true
  | .add => false | .sub => false | .mul => false | .quo => false | .rem => false
  | .and => false | .or => false | .xor => false | .andNot => false
  | .eql => false | .neq => false | .lss => false | .leq => false | .gtr => false | .geq => false

def evStr (x y : ByteArray) : BinOp → Option Out
  | .add => retc (x.size + y.size ≤ 9223372036854775807) (.str (x ++ y))
  | .eql => ret (.bool (x.toList == y.toList))
  | .neq => ret (.bool !(x.toList == y.toList))
  | .lss => ret (.bool (Op.bytesLess x.toList y.toList))
  | .leq => ret (.bool (Op.bytesLess x.toList y.toList || x.toList == y.toList))
  | .gtr => ret (.bool !(Op.bytesLess x.toList y.toList || x.toList == y.toList))
  | .geq => ret (.bool !(Op.bytesLess x.toList y.toList))
  | _ => none

def evBl (a b : Bool) : BinOp → Option Out
  | .eql => ret (.bool (a == b))
  | .neq => ret (.bool !(a == b))
  | _ => none

def consEq (t : Bool) : Option Bool → Option Bool
  | some r => some (t && r)
  | none => none
/-- The cells of two structs, compared one by one; what the zero has in a cell says of what kind it is. -/
def eqCells : List AV → List AV → List AV → Option Bool
  | [], [], [] => some true
  | .int _ _ :: zs, .int k a :: xs, .int l b :: ys => ifo (eqb (kn k) (kn l)) (consEq (a == b) (eqCells zs xs ys))
  | .str _ :: zs, .str a :: xs, .str b :: ys => consEq (a.toList == b.toList) (eqCells zs xs ys)
  | .bool _ :: zs, .bool a :: xs, .bool b :: ys => consEq (a == b) (eqCells zs xs ys)
  | _, _, _ => none
def evAggEq : BinOp → Option Bool → Option Out
  | .eql, some b => ret (.bool b)
  | .neq, some b => ret (.bool !b)
  | _, _ => none

def evBinI (op : BinOp) (k : IntKind) (a : Int) (k' : IntKind) (b : Int) : Bool → Option Out
  | true => evShift k a b op
  | false => ifo (eqb (kn k) (kn k')) (evInt k a b op)

def blK (op : BinOp) (a b : Bool) : TK → Option Out
  | .bool => evBl a b op
  | _ => none
def evBlT (op : BinOp) (a b : Bool) : Option TI → Option Out
  | some i => blK op a b i.kind
  | none => none
def evAggT (op : BinOp) (cs ds : List AV) : Option TI → Option Out
  | some i => ifo i.eq (evAggEq op (eqCells i.zero cs ds))
  | none => none
def evBin (op : BinOp) (ti : Option TI) : AV → AV → Option Out
  | .int k a, .int k' b => evBinI op k a k' b (isShift op)
  | .str a, .str b => evStr a b op
  | .bool a, .bool b => evBlT op a b ti
  | .agg cs, .agg ds => evAggT op cs ds ti
  | _, _ => none

def evUn : UnOp → AV → Option Out
  | .not, .bool b => ret (.bool !b)
  | .neg, .int k n => ret (.int k (k.wrap (0 - n)))
  | _, _ => none

def isU8K : TK → Bool
  | .int k => eqb (kn k) 4
  | _ => false
def isU8 : Option TI → Bool
  | some i => isU8K i.kind
  | none => false
def evConv (te : TE) : TK → TK → AV → Option Out
  | _, .int k, .int _ n => ret (.int k (k.wrap n))
  | _, .str, .str x => ret (.str x)
  | .slice e, .str, .sl sz _ es => ifo (andB (isU8 (te e)) (eqb sz 1)) (retc (∀ e ∈ es, isByte e) (.str (strOf es)))
  | _, .slice e, .str x => ifo (isU8 (te e)) (retc (x.size ≤ 140737488355328) (.sl 1 false (bytesAV x)))
  | _, _, _ => none

def loadV (agg : Bool) (n q off : Nat) (cells : List AV) : Option Out := ifo (lenLe (off + n) cells) (some ⟨none, mkVal agg ((cells.drop off).take n), [], [q], none, false⟩)
def loadP (agg : Bool) (n q off : Nat) : Ent → Option Out
  | .var cells => loadV agg n q off cells
  | _ => none
def loadE (agg : Bool) (n q ver i k : Nat) : Ent → Option Out
  | .arr cl v sz _ es => ifo (leb (k + n) sz) (some ⟨some (dp (v = ver ∧ i < es.length)), mkVal agg (cellsFrom es i k n), [], [q], none, cl⟩)
  | _ => none
def evLoad (H : List Ent) (agg : Bool) (n : Nat) : AV → Option Out
  | .ptr q off => loadP agg n q off (H.getD q .none)
  | .eptr q ver i k => loadE agg n q ver i k (H.getD q .none)
  | .rptr sz es i k => ifo (leb (k + n) sz) (some ⟨none, mkVal agg (cellsFrom es i k n), [], [], none, true⟩)
  | _ => none

def storeP (n q off : Nat) (cs : List AV) : Ent → Option Out
  | .var cells => ifo (andB (lenEq n cs) (lenLe (off + n) cells)) (some ⟨none, .junk, [(q, .var (setCells cells off cs))], [q], none, false⟩)
  | _ => none
def storeE (n q ver i k : Nat) (cs : List AV) : Ent → Option Out
  | .arr cl v sz cap es => ifo (andB (lenEq n cs) (leb (k + n) sz))
      (some ⟨some (dp (v = ver ∧ i < es.length)), .junk, [(q, .arr (andB cl (closedAll cs)) v sz cap (es.set i (setCells (es.getD i []) k (nfs cs))))], [q], none, false⟩)
  | _ => none
def evStore (H : List Ent) (n : Nat) : Option (List AV) → AV → Option Out
  | some cs, .ptr q off => storeP n q off cs (H.getD q .none)
  | some cs, .eptr q ver i k => storeE n q ver i k cs (H.getD q .none)
  | _, _ => none

def evFieldAddr (off : Nat) : AV → Option Out
  | .ptr q o => ret (.ptr q (o + off))
  | .eptr q ver i k => ret (.eptr q ver i (k + off))
  | .rptr sz es i k => ret (.rptr sz es i (k + off))
  | _ => none

def evField (off n : Nat) (agg : Bool) : AV → Option Out
  | .agg cs => ifo (lenLe (off + n) cs) (ret (mkVal agg ((cs.drop off).take n)))
  | _ => none

/-- An element of an array of the call's own has so many cells. -/
def esz1 (esz : Nat) : Ent → Bool
  | .arr _ _ sz _ _ => eqb sz esz
  | _ => false
def evIndexAddr (H : List Ent) (esz : Nat) : AV → AV → Option Out
  | .int _ n, .sl sz _ es => ifo (eqb sz esz) (retc (0 ≤ n ∧ n < es.length) (.rptr sz es n.toNat 0))
  | .int _ n, .own q ver len => ifo (esz1 esz (H.getD q .none)) (retc (0 ≤ n ∧ n < len) (.eptr q ver n.toNat 0))
  | .int _ n, .osub q ver off len => ifo (esz1 esz (H.getD q .none)) (retc (0 ≤ n ∧ n < len) (.eptr q ver (off + n.toNat) 0))
  | _, _ => none

def evIndex : AV → AV → Option Out
  | .int _ n, .str s => retc (0 ≤ n ∧ n < s.size) (.int .u8 (sb s n))
  | _, _ => none

def evExtract (i : Nat) : AV → Option Out
  | .tup vs => ifo (lenLe (i + 1) vs) (ret (vs.getD i .junk))
  | _ => none

/-- Parts of a struct, put into its cells: each by its field's place. -/
def fillPart (fields : List (Nat × Nat × Bool)) (cells : List AV) (i : Nat) : Option (List AV) → Option (List AV)
  | some cs => ifo (andB (lenLe (i + 1) fields) (andB (lenEq (fields.getD i (0, 0, false)).2.1 cs) (lenLe ((fields.getD i (0, 0, false)).1 + (fields.getD i (0, 0, false)).2.1) cells)))
      (some (setCells cells (fields.getD i (0, 0, false)).1 cs))
  | none => none
def fillParts (fields : List (Nat × Nat × Bool)) (E : Operand → AV) : List (Nat × Operand) → Option (List AV) → Option (List AV)
  | [], r => r
  | _ :: _, none => none
  | (i, x) :: rest, some cells => fillParts fields E rest (fillPart fields cells i (cellsOf (E x)))
def evBuild : Option (List AV) → Option Out
  | some cs => ret (.agg cs)
  | none => none

/-- The elements of a literal. -/
def impB : Bool → Bool → Bool
  | true, b => b
  | false, _ => true
def fillElem (cl : Bool) (n : Nat) (es : List (List AV)) (i : Nat) : Option (List AV) → Option (List (List AV))
  | some cs => ifo (andB (lenLe (i + 1) es) (andB (lenEq n cs) (impB cl (closedAll cs)))) (some (es.set i (nfs cs)))
  | none => none
def fillElems (cl : Bool) (E : Operand → AV) (n : Nat) : List (Nat × Operand) → Option (List (List AV)) → Option (List (List AV))
  | [], r => r
  | _ :: _, none => none
  | (i, x) :: rest, some es => fillElems cl E n rest (fillElem cl n es i (cellsOf (E x)))
def repl : Nat → List AV → List (List AV)
  | 0, _ => []
  | n + 1, z => z :: repl n z
def evLit (n size : Nat) : Option (List (List AV)) → Option Out
  | some es => ifo (andB (leb n 1000) (leb size 1000)) (ret (.sl size true es))
  | none => none

/-- A literal whose elements name the abstract memory: an array of the call's own. -/
def litOwn (p n size : Nat) : Option (List (List AV)) → Option Out
  | some es => ifo (andB (leb 1 n) (andB (leb n 1000) (leb size 1000))) (some ⟨none, .own p 1 n, [(p, .arr false 1 size none es)], [], none, false⟩)
  | none => none
def orLit : Option Out → Option Out → Option Out
  | some x, _ => some x
  | none, y => y

def optV : AV → Option (Option Int)
  | .int _ n => some (some n)
  | _ => none
def optInt (E : Operand → AV) : Option Operand → Option (Option Int)
  | none => some none
  | some x => optV (E x)

def sameConst : Option Operand → Option Operand → Bool
  | some (.const (.int _ (.ofNat a))), some (.const (.int _ (.ofNat b))) => eqb a b
  | _, _ => false

def slLo : Option Int → Int
  | some n => n
  | none => 0
def slHi (len : Int) : Option Int → Int
  | some n => n
  | none => len
def slStr (s : ByteArray) : Option (Option Int) → Option (Option Int) → Option (Option Int) → Option Out
  | some l, some h, some none => retc (0 ≤ slLo l ∧ slLo l ≤ slHi s.size h ∧ slHi s.size h ≤ s.size) (.str (s.extract (slLo l).toNat (slHi s.size h).toNat))
  | _, _, _ => none
def slSl (sz : Nat) (es : List (List AV)) (same : Bool) : Option (Option Int) → Option (Option Int) → Option (Option Int) → Option Out
  | some l, some h, some none => retc (0 ≤ slLo l ∧ slLo l ≤ slHi es.length h ∧ slHi es.length h ≤ es.length) (.sl sz false ((es.drop (slLo l).toNat).take ((slHi es.length h).toNat - (slLo l).toNat)))
  | some l, some (some h), some (some m) => retc (0 ≤ slLo l ∧ slLo l ≤ h ∧ h ≤ m ∧ m ≤ es.length) (.sl sz same ((es.drop (slLo l).toNat).take (h.toNat - (slLo l).toNat)))
  | _, _, _ => none
def slOwn (whole : Bool) (q ver off len : Nat) : Option (Option Int) → Option (Option Int) → Option (Option Int) → Option Out
  | some l, some h, some none => some ⟨some (dp (0 ≤ slLo l ∧ slLo l ≤ slHi len h ∧ slHi len h ≤ len)), .osub q ver (off + (slLo l).toNat) ((slHi len h).toNat - (slLo l).toNat), [], [], none, false⟩
  | some l, some (some h), some (some m) => retc (0 ≤ slLo l ∧ slLo l ≤ h ∧ h ≤ m ∧ m ≤ len) .junk
  | _, _, _ => none

/-- How far a part of an array may be cut anew: to the array's own length. -/
def limE (ver off len : Nat) : Ent → Nat
  | .arr _ v _ _ es => limB len (es.length - off) (Nat.beq v ver)
  | _ => len
where limB (a b : Nat) : Bool → Nat
  | true => if a ≤ b then b else a
  | false => a
def slSub (q ver off len : Nat) (e : Ent) : Option (Option Int) → Option (Option Int) → Option (Option Int) → Option Out
  | some l, some h, some none => some ⟨some (dp (0 ≤ slLo l ∧ slLo l ≤ slHi len h ∧ slHi len h ≤ limE ver off len e)), .osub q ver (off + (slLo l).toNat) ((slHi len h).toNat - (slLo l).toNat), [], [], none, false⟩
  | _, _, _ => none

def evSlice (H : List Ent) (E : Operand → AV) (esz : Nat) (lo hi mx : Option Operand) : AV → Option Out
  | .sl sz _ es => ifo (eqb sz esz) (slSl sz es (sameConst hi mx) (optInt E lo) (optInt E hi) (optInt E mx))
  | .own q ver len => ifo (esz1 esz (H.getD q .none)) (slOwn true q ver 0 len (optInt E lo) (optInt E hi) (optInt E mx))
  | .osub q ver off len => ifo (esz1 esz (H.getD q .none)) (slSub q ver off len (H.getD q .none) (optInt E lo) (optInt E hi) (optInt E mx))
  | _ => none
def evSliceS (E : Operand → AV) (lo hi mx : Option Operand) : AV → Option Out
  | .str s => slStr s (optInt E lo) (optInt E hi) (optInt E mx)
  | _ => none

/-- What a slice or a string holds: a condition, the size of an element, whether it holds no place of the abstract memory, the elements, the places that are read. -/
structure Cont where
  c : Option DP
  sz : Nat
  cl : Bool
  es : List (List AV)
  r : List Nat

def contO (q ver len : Nat) : Ent → Option Cont
  | .arr cl v sz _ es => some ⟨some (dp (v = ver ∧ len = es.length)), sz, cl, es, [q]⟩
  | _ => none
def contS (q ver off len : Nat) : Ent → Option Cont
  | .arr cl v sz _ es => some ⟨some (dp (v = ver ∧ off + len ≤ es.length)), sz, cl, (es.drop off).take len, [q]⟩
  | _ => none
def contents (H : List Ent) : AV → Option Cont
  | .sl sz _ es => some ⟨none, sz, true, es, []⟩
  | .own q ver len => contO q ver len (H.getD q .none)
  | .osub q ver off len => contS q ver off len (H.getD q .none)
  | .str s => some ⟨none, 1, true, bytesAV s, []⟩
  | _ => none

def andO : Option DP → DP → DP
  | none, b => b
  | some a, b => ⟨a.p ∧ b.p, match a.d, b.d with
    | .isTrue h, .isTrue k => .isTrue ⟨h, k⟩
    | .isFalse h, _ => .isFalse fun x => h x.1
    | _, .isFalse k => .isFalse fun x => k x.2⟩

def room (n bytes : Nat) : Prop := n * bytes ≤ 140737488355328
instance (n bytes : Nat) : Decidable (room n bytes) := inferInstanceAs (Decidable (_ ≤ _))

/-- An empty row has whatever size. -/
def fits (sz esz : Nat) : List (List AV) → Bool
  | [] => true
  | _ :: _ => eqb sz esz

/-- append. -/
def appF (p esz bytes xsz : Nat) (es : List (List AV)) : Option Cont → Option Out
  | some ⟨c, sz, cl, ys, r⟩ => some ⟨some (andO c (dp ((fits sz esz ys = true ∧ fits xsz esz es = true) ∧ (es = [] ∨ ys ≠ []) ∧ room (es.length + ys.length) bytes))), .own p 1 (es.length + ys.length), [(p, .arr cl 1 esz none (es ++ ys))], r, none, false⟩
  | none => none
def appO (q ver len esz bytes : Nat) : Ent → Option Cont → Option Out
  | .arr cl' v qsz _ es, some ⟨c, sz, cl, ys, r⟩ => ifo (eqb qsz esz)
      (some ⟨some (andO c (dp (fits sz esz ys = true ∧ v = ver ∧ len = es.length ∧ room (es.length + ys.length) bytes))), .own q (v + 1) (es.length + ys.length), [(q, .arr (andB cl cl') (v + 1) esz none (es ++ ys))], q :: r, none, false⟩)
  | _, _ => none
def evAppend (p : Nat) (H : List Ent) (esz bytes : Nat) : AV → Option Cont → Option Out
  | .sl xsz true es, k => appF p esz bytes xsz es k
  | .own q ver len, k => appO q ver len esz bytes (H.getD q .none) k
  | _, _ => none

/-- append to a part of an array, within the array. -/
def appI (q ver off len esz : Nat) : Ent → Option Cont → Option Out
  | .arr cl' v qsz cap es, some ⟨c, sz, cl, ys, r⟩ => ifo (eqb qsz esz)
      (some ⟨some (andO c (dp (fits sz esz ys = true ∧ v = ver ∧ off = 0 ∧ len + ys.length ≤ es.length))), .osub q ver 0 (len + ys.length),
        [(q, .arr (andB cl cl') v esz cap (es.take len ++ ys ++ es.drop (len + ys.length)))], q :: r, none, false⟩)
  | _, _ => none
def evAppendIn (H : List Ent) (esz : Nat) : AV → Option Cont → Option Out
  | .osub q ver off len, k => appI q ver off len esz (H.getD q .none) k
  | _, _ => none

/-- append to a part of an array, past the array's capacity: a new one. -/
def appX (p q ver off len esz bytes : Nat) : Ent → Option Cont → Option Out
  | .arr cl' v qsz (some cap) es, some ⟨c, sz, cl, ys, r⟩ => ifo (eqb qsz esz)
      (some ⟨some (andO c (dp (fits sz esz ys = true ∧ v = ver ∧ off = 0 ∧ len ≤ es.length ∧ cap < len + ys.length ∧ room (len + ys.length) bytes))), .own p 1 (len + ys.length),
        [(p, .arr (andB cl cl') 1 esz none (es.take len ++ ys))], q :: r, none, false⟩)
  | _, _ => none
def evAppendOut (p : Nat) (H : List Ent) (esz bytes : Nat) : AV → Option Cont → Option Out
  | .osub q ver off len, k => appX p q ver off len esz bytes (H.getD q .none) k
  | _, _ => none

def lenOK (len n : Nat) : Bool → Nat → Prop
  | true, _ => len = n
  | false, off => off + len ≤ n
instance (len n : Nat) : (b : Bool) → (off : Nat) → Decidable (lenOK len n b off)
  | true, _ => inferInstanceAs (Decidable (_ = _))
  | false, _ => inferInstanceAs (Decidable (_ ≤ _))
def copyTo (esz q ver off len : Nat) (whole : Bool) : Ent → Option Cont → Option Out
  | .arr cl' v qsz cap es, some ⟨c, sz, cl, ys, r⟩ => ifo (eqb qsz esz)
      (some ⟨some (andO c (dp (fits sz esz ys = true ∧ v = ver ∧ lenOK len es.length whole off))), .int .i64 ((min ys.length len : Nat) : Int),
        [(q, .arr (andB cl cl') v qsz cap (es.take off ++ ys.take (min ys.length len) ++ es.drop (off + min ys.length len)))], q :: r, none, false⟩)
  | _, _ => none
def evCopy (H : List Ent) (esz : Nat) : AV → Option Cont → Option Out
  | .own q ver len, k => copyTo esz q ver 0 len true (H.getD q .none) k
  | .osub q ver off len, k => copyTo esz q ver off len false (H.getD q .none) k
  | _, _ => none

def clearE (zero : List AV) (q ver off len : Nat) : Ent → Option Out
  | .arr cl v sz cap es => ifo (andB (lenEq sz zero) (closedAll zero)) (some ⟨some (dp (v = ver ∧ off + len ≤ es.length)), .tup [], [(q, .arr cl v sz cap (es.take off ++ List.replicate len (nfs zero) ++ es.drop (off + len)))], [q], none, false⟩)
  | _ => none
def evClear (H : List Ent) (zero : List AV) : AV → Option Out
  | .osub q ver off len => clearE zero q ver off len (H.getD q .none)
  | _ => none

def evMax : AV → AV → Option Out
  | .int k a, .int l b => ifo (eqb (kn k) (kn l)) (ret (.int k (if b > a then b else a)))
  | _, _ => none
def evMin : AV → AV → Option Out
  | .int k a, .int l b => ifo (eqb (kn k) (kn l)) (ret (.int k (if b < a then b else a)))
  | _, _ => none

def evLen : TK → AV → Option Out
  | .slice _, .sl _ _ es => ret (.int .i64 (es.length : Int))
  | .slice _, .own _ _ len => ret (.int .i64 (len : Int))
  | .slice _, .osub _ _ _ len => ret (.int .i64 (len : Int))
  | .str, .str s => ret (.int .i64 (s.size : Int))
  | _, _ => none
def evLenT (x : AV) : Option TI → Option Out
  | some i => evLen i.kind x
  | none => none

def evMake (p size bytes : Nat) (zero : List AV) : AV → AV → Option Out
  | .int .i64 n, .int .i64 m => ifo (closedAll zero) (some ⟨some (dp (n = m ∧ 0 ≤ n ∧ n * bytes ≤ 140737488355328)), .own p 1 n.toNat, [(p, .arr true 1 size none (List.replicate n.toNat (nfs zero)))], [], none, false⟩)
  | _, _ => none

/-- The element type of a slice type. -/
def elemK (te : TE) : TK → Option TI
  | .slice e => te e
  | _ => none
def elemI (te : TE) : Option TI → Option TI
  | some i => elemK te i.kind
  | none => none

def zerosC (size bytes : Nat) (zero : List AV) : AV → Option Cont
  | .int .i64 n => ifo (closedAll zero) (some ⟨some (dp (0 ≤ n ∧ n * bytes ≤ 140737488355328)), size, true, List.replicate n.toNat (nfs zero), []⟩)
  | _ => none
/-- What append's second argument brings: a slice, a string, or so many zeros. -/
def appK (H : List Ent) (i : TI) : TK → AV → Option Cont
  | .int _, y => zerosC i.size i.bytes i.zero y
  | .slice _, y => contents H y
  | .str, y => contents H y
  | _, _ => none
def appArg (H : List Ent) (i : TI) : Option TI → AV → Option Cont
  | some k, y => appK H i k.kind y
  | none, _ => none
def evApp (p : Nat) (H : List Ent) (t2 : Option TI) (x y : AV) : Option TI → Option Out
  | some i => evAppend p H i.size i.bytes x (appArg H i t2 y)
  | none => none
def evCp (H : List Ent) (x y : AV) : Option TI → Option Out
  | some i => evCopy H i.size x (contents H y)
  | none => none
def evCl (H : List Ent) (x : AV) : Option TI → Option Out
  | some i => evClear H i.zero x
  | none => none

def evBuiltin (te : TE) (p : Nat) (E : Operand → AV) (H : List Ent) : Builtin → List Operand → List TypeId → Option Out
  | .len, [x], [t] => evLenT (E x) (te t)
  | .max, [x, y], _ => evMax (E x) (E y)
  | .min, [x, y], _ => evMin (E x) (E y)
  | .append, [x, y], [t, u] => evApp p H (te u) (E x) (E y) (elemI te (te t))
  | .copy, [x, y], [t, _] => evCp H (E x) (E y) (elemI te (te t))
  | .clear, [x], [t] => evCl H (E x) (elemI te (te t))
  | _, _, _ => none

/-- A pointer that leads somewhere is not nil. -/
def evNil : AV → Option Out
  | .ptr q off => ret (.ptr q off)
  | .eptr q v i k => ret (.eptr q v i k)
  | .rptr sz es i k => ret (.rptr sz es i k)
  | _ => none
def evPick (a b : AV) : AV → Option Out
  | .bool true => ret a
  | .bool false => ret b
  | _ => none
def evAlloc (p : Nat) : Option TI → Option Out
  | some i => some ⟨none, .ptr p 0, [(p, .var i.zero)], [], none, false⟩
  | none => none
def evBox (p : Nat) : Option TI → Option (List AV) → Option Out
  | some i, some cs => ifo (lenEq i.size cs) (some ⟨none, .ptr p 0, [(p, .var cs)], [], none, false⟩)
  | _, _ => none
def buildK (E : Operand → AV) (parts : List (Nat × Operand)) (i : TI) : Bool → Option Out
  | true => evBuild (fillParts i.fields E parts (some i.zero))
  | false => none
def evBuildT (E : Operand → AV) (parts : List (Nat × Operand)) : Option TI → Option Out
  | some i => buildK E parts i i.kind.isAgg
  | none => none
def evLitT (p : Nat) (E : Operand → AV) (n : Nat) (parts : List (Nat × Operand)) : Option TI → Option Out
  | some i => orLit (evLit n i.size (fillElems true E i.size parts (some (repl n (nfs i.zero))))) (litOwn p n i.size (fillElems false E i.size parts (some (repl n (nfs i.zero)))))
  | none => none
def evLoadT (H : List Ent) (a : AV) : Option TI → Option Out
  | some i => evLoad H i.kind.isAgg i.size a
  | none => none
def evStoreT (H : List Ent) (x a : AV) : Option TI → Option Out
  | some i => evStore H i.size (cellsOf x) a
  | none => none
def evConvT (te : TE) (x : AV) : Option TI → Option TI → Option Out
  | some i, some j => evConv te i.kind j.kind x
  | _, _ => none
def evMakeT (p : Nat) (l c : AV) : Option TI → Option Out
  | some i => evMake p i.size i.bytes i.zero l c
  | none => none
def sliceE (H : List Ent) (E : Operand → AV) (x : AV) (lo hi mx : Option Operand) : Option TI → Option Out
  | some i => evSlice H E i.size lo hi mx x
  | none => none
def sliceK (te : TE) (H : List Ent) (E : Operand → AV) (x : AV) (lo hi mx : Option Operand) : TK → Option Out
  | .slice e => sliceE H E x lo hi mx (te e)
  | .str => evSliceS E lo hi mx x
  | _ => none
def evSliceT (te : TE) (H : List Ent) (E : Operand → AV) (x : AV) (lo hi mx : Option Operand) : Option TI → Option Out
  | some i => sliceK te H E x lo hi mx i.kind
  | none => none
def evFieldAddrT (x : AV) (f : Nat) : Option TI → Option Out
  | some i => ifo (lenLe (f + 1) i.fields) (evFieldAddr (i.fields.getD f (0, 0, false)).1 x)
  | none => none
def evFieldT (x : AV) (f : Nat) : Option TI → Option Out
  | some i => ifo (lenLe (f + 1) i.fields) (evField (i.fields.getD f (0, 0, false)).1 (i.fields.getD f (0, 0, false)).2.1 (i.fields.getD f (0, 0, false)).2.2 x)
  | none => none
def evIndexAddrT (H : List Ent) (ix x : AV) : Option TI → Option Out
  | some i => evIndexAddr H i.size ix x
  | none => none
def indexK (ix x : AV) : TK → Option Out
  | .str => evIndex ix x
  | _ => none
def evIndexT (ix x : AV) : Option TI → Option Out
  | some i => indexK ix x i.kind
  | none => none

/-- What an operation comes to; 'p' is the place that it may take for what it makes. -/
def evOpE (te : TE) (p : Nat) (E : Operand → AV) (H : List Ent) : Op → Option Out
  | .move x => ret (E x)
  | .assign x => ret (E x)
  | .pick c a b => evPick (E a) (E b) (E c)
  | .alloc t => evAlloc p (te t)
  | .box t x => evBox p (te t) (cellsOf (E x))
  | .build t parts => evBuildT E parts.toList (te t)
  | .buildSlice t n parts => evLitT p E n parts.toList (elemI te (te t))
  | .load t a => evLoadT H (E a) (te t)
  | .store t a x => evStoreT H (E x) (E a) (te t)
  | .binOp op t x y _ => evBin op (te t) (E x) (E y)
  | .unOp op _ x => evUn op (E x)
  | .convert s d x => evConvT te (E x) (te s) (te d)
  | .makeSlice t l c => evMakeT p (E l) (E c) (elemI te (te t))
  | .slice t x lo hi mx => evSliceT te H E (E x) lo hi mx (te t)
  | .fieldAddr t x f => evFieldAddrT (E x) f (te t)
  | .field t x f => evFieldT (E x) f (te t)
  | .indexAddr t x ix => evIndexAddrT H (E ix) (E x) (elemI te (te t))
  | .index t x ix => evIndexT (E ix) (E x) (te t)
  | .extract x i => evExtract i (E x)
  | .nilCheck x => evNil (E x)
  | .call ⟨.builtin b, args, tys⟩ => evBuiltin te p E H b args.toList tys.toList
  | _ => none

def evOp (te : TE) (p : Nat) (T : List AV) (H : List Ent) (op : Op) : Option Out := evOpE te p (ev T) H op

end Go.Rf
end
/-
  THE SYMBOLIC EXECUTOR, part 2: what must hold for a piece of code to go through (weakest preconditions), as plain definitions.
-/
section
set_option linter.unusedVariables false
namespace Go.Rf

/-- A contract on data: what the arguments must be, and what then comes out: a value, and (in place 0) an array that it may own. -/
abbrev DSpec := List AV → (AV → Ent → Prop) → Prop
/-- A contract on the abstract memory. -/
abbrev GSpec := List AV → List Ent → (AV → List Ent → Prop) → Prop

inductive Spec where
  | dat (D : DSpec)
  | gen (G : GSpec)
  | fn (C : List AV → Prop) (g : List AV → AV)
  | fe (C : List AV → Prop) (g : List AV → AV) (h : List AV → Ent)
  | fz (C : List AV → Prop) (g : List AV → AV)

abbrev GE := FuncId → Option Spec

def condK : Option DP → Prop → Prop
  | none, K => K
  | some c, K => c.p ∧ K

def putT (T : List AV) (v : AV) : Option Nat → List AV
  | some d => T.set d v
  | none => T

def setH : List Ent → Nat → Ent → List Ent
  | [], _, e => [e]
  | _ :: H, 0, e => e :: H
  | x :: H, q + 1, e => x :: setH H q e

def putH : List Ent → List (Nat × Ent) → List Ent
  | H, [] => H
  | H, (q, e) :: w => putH (setH H q e) w

/-- A nil that stands in the code as a constant has the type that it is used at. -/
def nilAt (fr : Bool) : Option TI → AV
  | some i => .sl i.size fr []
  | none => .sl 0 fr []
def rty (te : TE) (t : TypeId) : AV → AV
  | .sl 0 fr [] => nilAt fr (elemI te (te t))
  | .sl 0 fr (e :: es) => .sl 0 fr (e :: es)
  | .sl (n + 1) fr es => .sl (n + 1) fr es
  | .junk => .junk
  | .int k n => .int k n
  | .bool b => .bool b
  | .str s => .str s
  | .fn f => .fn f
  | .agg cs => .agg cs
  | .tup vs => .tup vs
  | .own p v l => .own p v l
  | .osub p v o l => .osub p v o l
  | .ptr p o => .ptr p o
  | .eptr p v i k => .eptr p v i k
  | .rptr sz es i k => .rptr sz es i k

abbrev Rs (α : Type) := Option (Option DP × α)

def contR : Option Cont → Rs AV
  | some ⟨c, sz, true, es, _⟩ => some (c, .sl sz false es)
  | _ => none
/-- A value as data: what the abstract memory holds of it is told. -/
def rslv1 (H : List Ent) : AV → Rs AV
  | .int k n => some (none, .int k n)
  | .bool b => some (none, .bool b)
  | .str s => some (none, .str s)
  | .fn f => some (none, .fn f)
  | .sl sz _ es => some (none, .sl sz false es)
  | .own q ver len => contR (contO q ver len (H.getD q .none))
  | .osub q ver off len => contR (contS q ver off len (H.getD q .none))
  | _ => none

def andOO : Option DP → Option DP → Option DP
  | none, b => b
  | some a, none => some a
  | some a, some b => some (andO (some a) b)

def consR : Rs AV → Rs (List AV) → Rs (List AV)
  | some (c, x), some (d, xs) => some (andOO c d, x :: xs)
  | _, _ => none
def rslvs (H : List Ent) : List AV → Rs (List AV)
  | [] => some (none, [])
  | v :: vs => consR (rslv1 H v) (rslvs H vs)
def aggR : Rs (List AV) → Rs AV
  | some (c, xs) => some (c, .agg xs)
  | none => none
def tupR : Rs (List AV) → Rs AV
  | some (c, xs) => some (c, .tup xs)
  | none => none

def rslv (H : List Ent) : AV → Rs AV
  | .agg cs => aggR (rslvs H cs)
  | .int k n => some (none, .int k n)
  | .bool b => some (none, .bool b)
  | .str s => some (none, .str s)
  | .fn f => some (none, .fn f)
  | .sl sz _ es => some (none, .sl sz false es)
  | .own q ver len => contR (contO q ver len (H.getD q .none))
  | .osub q ver off len => contR (contS q ver off len (H.getD q .none))
  | _ => none
def rslvL (H : List Ent) : List AV → Rs (List AV)
  | [] => some (none, [])
  | v :: vs => consR (rslv H v) (rslvL H vs)
def rslvR (H : List Ent) : AV → Rs AV
  | .tup vs => tupR (rslvL H vs)
  | .agg cs => aggR (rslvs H cs)
  | .int k n => some (none, .int k n)
  | .bool b => some (none, .bool b)
  | .str s => some (none, .str s)
  | .fn f => some (none, .fn f)
  | .sl sz _ es => some (none, .sl sz false es)
  | .own q ver len => contR (contO q ver len (H.getD q .none))
  | .osub q ver off len => contR (contS q ver off len (H.getD q .none))
  | _ => none

def orB : Bool → Bool → Bool
  | true, _ => true
  | false, b => b

/-- Does a value name the abstract memory? -/
def names1 : AV → Bool
  | .int .. => false
  | .bool _ => false
  | .str _ => false
  | .fn _ => false
  | .sl .. => false
  | .junk => true
  | .agg _ => true
  | .tup _ => true
  | .own .. => true
  | .osub .. => true
  | .ptr .. => true
  | .eptr .. => true
  | .rptr .. => true
def namesL : List AV → Bool
  | [] => false
  | v :: vs => orB (names1 v) (namesL vs)
def names : AV → Bool
  | .agg cs => namesL cs
  | .int .. => false
  | .bool _ => false
  | .str _ => false
  | .fn _ => false
  | .sl .. => false
  | .junk => true
  | .tup _ => true
  | .own .. => true
  | .osub .. => true
  | .ptr .. => true
  | .eptr .. => true
  | .rptr .. => true
def namesA : List AV → Bool
  | [] => false
  | v :: vs => orB (names v) (namesA vs)

/-- A result that leads nowhere. -/
def scalar1 : AV → Prop
  | .int .. => True
  | .bool _ => True
  | .str _ => True
  | _ => False
def scalarL : List AV → Prop
  | [] => True
  | v :: vs => scalar1 v ∧ scalarL vs
def scalar : AV → Prop
  | .tup vs => scalarL vs
  | .int .. => True
  | .bool _ => True
  | .str _ => True
  | _ => False

/-- What comes back names place 0 alone; here it is place p. -/
def mv1 (p : Nat) : AV → AV
  | .own _ ver len => .own p ver len
  | .sl sz fr es => .sl sz fr es
  | .junk => .junk
  | .int k n => .int k n
  | .bool b => .bool b
  | .str s => .str s
  | .fn f => .fn f
  | .rptr sz es i k => .rptr sz es i k
  | .agg _ => .junk
  | .tup _ => .junk
  | .osub _ _ _ _ => .junk
  | .ptr _ _ => .junk
  | .eptr _ _ _ _ => .junk
def mvL (p : Nat) : List AV → List AV
  | [] => []
  | v :: vs => mv1 p v :: mvL p vs
def mv (p : Nat) : AV → AV
  | .agg cs => .agg (mvL p cs)
  | .own _ ver len => .own p ver len
  | .sl sz fr es => .sl sz fr es
  | .junk => .junk
  | .int k n => .int k n
  | .bool b => .bool b
  | .str s => .str s
  | .fn f => .fn f
  | .rptr sz es i k => .rptr sz es i k
  | .tup _ => .junk
  | .osub _ _ _ _ => .junk
  | .ptr _ _ => .junk
  | .eptr _ _ _ _ => .junk
def mvT (p : Nat) : List AV → List AV
  | [] => []
  | v :: vs => mv p v :: mvT p vs
def mvR (p : Nat) : AV → AV
  | .tup vs => .tup (mvT p vs)
  | .agg cs => .agg (mvL p cs)
  | .own _ ver len => .own p ver len
  | .sl sz fr es => .sl sz fr es
  | .junk => .junk
  | .int k n => .int k n
  | .bool b => .bool b
  | .str s => .str s
  | .fn f => .fn f
  | .rptr sz es i k => .rptr sz es i k
  | .osub _ _ _ _ => .junk
  | .ptr _ _ => .junk
  | .eptr _ _ _ _ => .junk

def pushE (p : Nat) : Ent → List (Nat × Ent)
  | .none => []
  | .var cs => [(p, .var cs)]
  | .arr cl v sz cap es => [(p, .arr cl v sz cap es)]

def evs (te : TE) (T : List AV) : List Operand → List TypeId → List AV
  | [], _ => []
  | x :: xs, [] => ev T x :: evs te T xs []
  | x :: xs, t :: ts => rty te t (ev T x) :: evs te T xs ts

/-- How the walk goes on behind an operation. -/
abbrev Kont := St → Prop

/-- Two ways. Where the test is known the machine takes its way; else both are asked. -/
def ifB (b : Bool) (A B : Prop) : Prop :=
  match b with
  | true => A
  | false => B

/-- What is read out of a row is told by its kinds: numbers, bools, strings, rows. -/
def shape : List AV → List AV → (List AV → Prop) → Prop
  | [], [], K => K []
  | .int k _ :: zs, a :: cs, K => ∃ n, a = .int k n ∧ shape zs cs fun r => K (.int k n :: r)
  | .bool _ :: zs, a :: cs, K => ∃ b, a = .bool b ∧ shape zs cs fun r => K (.bool b :: r)
  | .str _ :: zs, a :: cs, K => ∃ s, a = .str s ∧ shape zs cs fun r => K (.str s :: r)
  | .sl sz _ _ :: zs, a :: cs, K => ∃ es, a = .sl sz false es ∧ shape zs cs fun r => K (.sl sz false es :: r)
  | _, _, _ => False
def shapeG (z : List AV) (K : AV → Prop) : AV → Prop
  | .agg cs => shape z cs fun r => K (.agg r)
  | _ => False
def shapeW (z : List AV) (v : AV) (K : AV → Prop) : Bool → Prop
  | true => shapeG z K v
  | false => shape z [v] fun r => K (r.getD 0 .junk)
def shapeV : Option TI → AV → (AV → Prop) → Prop
  | some i, v, K => shapeW i.zero v K i.kind.isAgg
  | none, _, _ => False
def loadTy : Op → TypeId
  | .load t _ => t
  | _ => 0
def rawK (te : TE) (op : Op) (v : AV) (K : AV → Prop) (raw : Bool) : Prop := ifB raw (shapeV (te (loadTy op)) v K) (K v)
def kSt (T : List AV) (H : List Ent) (dst : Option Nat) (K : Kont) (v : AV) (w : List (Nat × Ent)) : Prop := K ⟨putT T v dst, putH H w⟩

/-- A call under a contract on data. -/
def kDat (p : Nat) (K : AV → List (Nat × Ent) → Prop) : AV → Ent → Prop := fun r e => K (mvR p r) (pushE p e)
def kScalar (K : AV → List (Nat × Ent) → Prop) : AV → Ent → Prop := fun r e => (scalar r ∧ e = .none) ∧ K r []
def wDat (D : DSpec) (p : Nat) (K : AV → List (Nat × Ent) → Prop) : Bool → Rs (List AV) → Prop
  | false, some (_, xs) => D xs (kDat p K)
  | true, some (c, xs) => condK c (D xs (kScalar K))
  | _, none => False

def calleeOf (Γ : GE) : AV → Option Spec
  | .fn g => Γ g
  | _ => none

def isNilConst : Operand → Bool
  | .const (.slice none 0 0) => true
  | .tmp _ => false
  | .func _ => false
  | .global _ => false
  | _ => false

def notIf : Bool → Bool → Bool
  | true, b => !b
  | false, b => b
def wNil (neq : Bool) (K : AV → Prop) : AV → Prop
  | .sl _ _ es => ∀ b : Bool, (b = true → es = []) → K (.bool (notIf neq b))
  | .own _ _ len => ∀ b : Bool, (b = true → len = 0) → K (.bool (notIf neq b))
  | _ => False
def kNil (K : AV → List (Nat × Ent) → Prop) : AV → Prop := fun r => K r []

def capE (q ver len : Nat) (K : AV → List (Nat × Ent) → Prop) : Ent → Prop
  | .arr _ v sz (some C) es => (v = ver ∧ len = es.length) ∧ K (.int .i64 (C : Int)) []
  | .arr cl v sz none es => (v = ver ∧ len = es.length) ∧ ∀ C : Nat, es.length ≤ C → C ≤ 9223372036854775807 → K (.int .i64 (C : Int)) [(q, .arr cl v sz (some C) es)]
  | _ => False
def wCap (H : List Ent) (K : AV → List (Nat × Ent) → Prop) : AV → Prop
  | .own q ver len => capE q ver len K (H.getD q .none)
  | _ => False

/-- 's[:h]' into the spare room. -/
def extE (q ver len : Nat) (h : Int) (K : AV → List (Nat × Ent) → Prop) : Ent → Prop
  | .arr cl v sz (some C) es => (v = ver ∧ len = es.length ∧ (es.length : Int) ≤ h ∧ h ≤ C) ∧
      K (.own q ver h.toNat) [(q, .arr cl v sz (some C) (es ++ List.replicate (h.toNat - es.length) (List.replicate sz .junk)))]
  | _ => False
def extV (i : TI) (H : List Ent) : AV → Option (Option Int) → Option (Option Int) → Option (Option Int) → Option (Nat × Nat × Nat × Int)
  | .own q ver len, some none, some (some h), some none => ifo (esz1 i.size (H.getD q .none)) (some (q, ver, len, h))
  | _, _, _, _ => none
def extT (H : List Ent) (x : AV) (lo hi mx : Option (Option Int)) : Option TI → Option (Nat × Nat × Nat × Int)
  | some i => extV i H x lo hi mx
  | none => none
def extOf (te : TE) (T : List AV) (H : List Ent) : Op → Option (Nat × Nat × Nat × Int)
  | .slice t x lo hi mx => extT H (ev T x) (optInt (ev T) lo) (optInt (ev T) hi) (optInt (ev T) mx) (elemI te (te t))
  | _ => none
def extK (H : List Ent) (K : AV → List (Nat × Ent) → Prop) (A : Prop) : Option (Nat × Nat × Nat × Int) → Prop
  | none => A
  | some (q, ver, len, h) => A ∨ extE q ver len h K (H.getD q .none)

def isSlice : Option TI → Bool
  | some i => isSliceK i.kind
  | none => false
where isSliceK : TK → Bool
  | .slice _ => true
  | _ => false
def wCapT (H : List Ent) (K : AV → List (Nat × Ent) → Prop) (x : AV) (ti : Option TI) : Prop := ifB (isSlice ti) (wCap H K x) False

def outK (K : AV → List (Nat × Ent) → Prop) : Option Out → Prop
  | some ⟨c, v, w, _, _, _⟩ => condK c (K v w)
  | none => False

/-- The places that arguments name. -/
def own1 : AV → List Nat
  | .own p _ _ => [p]
  | .osub p _ _ _ => [p]
  | _ => []
def ownC : List AV → List Nat
  | [] => []
  | v :: vs => own1 v ++ ownC vs
def ownV : AV → List Nat
  | .agg cs => ownC cs
  | .own p _ _ => [p]
  | .osub p _ _ _ => [p]
  | _ => []
def ownA : List AV → List Nat
  | [] => []
  | v :: vs => ownV v ++ ownA vs
/-- A place that is given up: an empty array of the next version. -/
def dead (v sz : Nat) : Ent := .arr true (v + 1) sz none []
/-- Arrays that are given away. -/
def killE (q : Nat) (rest : List Ent → List (Nat × Ent)) (H : List Ent) : Ent → List (Nat × Ent)
  | .arr _ v sz _ _ => (q, dead v sz) :: rest (setH H q (dead v sz))
  | _ => rest H
def killW : List Nat → List Ent → List (Nat × Ent)
  | [], _ => []
  | q :: qs, H => killE q (killW qs) H (H.getD q .none)

/-- A contract on data that tells what comes out as a function of what goes in. -/
def fnD (C : List AV → Prop) (g : List AV → AV) : DSpec := fun xs Φ => C xs ∧ Φ (g xs) .none
/-- The same, with an array that is handed over. -/
def fnE (C : List AV → Prop) (g : List AV → AV) (h : List AV → Ent) : DSpec := fun xs Φ => C xs ∧ Φ (g xs) (h xs)
/-- The same, where the arguments' own arrays are given away. -/
def wFz (C : List AV → Prop) (g : List AV → AV) (T : List AV) (H : List Ent) (dst : Option Nat) (args : List AV) (K : Kont) : Bool → Rs (List AV) → Prop
  | false, r => wDat (fnD C g) H.length (kSt T H dst K) false r
  | true, some (c, xs) => condK c (C xs ∧ K ⟨putT T (mvR H.length (g xs)) dst, putH H (killW (ownA args) H)⟩)
  | true, none => False
def wCall (te : TE) (T : List AV) (H : List Ent) (dst : Option Nat) (args : List AV) (K : Kont) : Option Spec → Prop
  | some (.dat D) => wDat D H.length (kSt T H dst K) (namesA args) (rslvL H args)
  | some (.gen G) => G args H (fun r H' => K ⟨putT T r dst, H'⟩)
  | some (.fn C g) => wDat (fnD C g) H.length (kSt T H dst K) (namesA args) (rslvL H args)
  | some (.fe C g h) => wDat (fnE C g h) H.length (kSt T H dst K) (namesA args) (rslvL H args)
  | some (.fz C g) => wFz C g T H dst args K (namesA args) (rslvL H args)
  | none => False

def wApp2 (H : List Ent) (x : AV) (K : AV → List (Nat × Ent) → Prop) (k : Option Cont) : Option TI → Prop
  | some i => outK K (evAppendIn H i.size x k) ∨ outK K (evAppendOut H.length H i.size i.bytes x k)
  | none => False
def wApp (te : TE) (T : List AV) (H : List Ent) (K : AV → List (Nat × Ent) → Prop) (x y : AV) (t2 : Option TI) : Option TI → Prop
  | some i => wApp2 H x K (appArg H i t2 y) (some i)
  | none => False

def wBuiltin (te : TE) (T : List AV) (H : List Ent) (K : AV → List (Nat × Ent) → Prop) : Builtin → List Operand → List TypeId → Prop
  | .cap, [x], [t] => wCapT H K (ev T x) (te t)
  | .append, [x, y], [t, u] => wApp te T H K (ev T x) (ev T y) (te u) (elemI te (te t))
  | _, _, _ => False

def wNilK (neq : Bool) (x : AV) (K : AV → List (Nat × Ent) → Prop) : Bool → Prop
  | true => wNil neq (kNil K) x
  | false => False
def wBin (x : AV) (K : AV → List (Nat × Ent) → Prop) (nil : Bool) : BinOp → Prop
  | .eql => wNilK false x K nil
  | .neq => wNilK true x K nil
  | _ => False

/-- Operations that are no plain evaluation. -/
def wSpecial (te : TE) (Γ : GE) (T : List AV) (H : List Ent) (dst : Option Nat) (K : Kont) : Op → Prop
  | .call ⟨.value f, args, tys⟩ => wCall te T H dst (evs te T args.toList tys.toList) K (calleeOf Γ (ev T f))
  | .call ⟨.builtin b, args, tys⟩ => wBuiltin te T H (kSt T H dst K) b args.toList tys.toList
  | .binOp op t x y _ => wBin (ev T x) (kSt T H dst K) (andB (isSlice (te t)) (isNilConst y)) op
  | _ => False

def opK (te : TE) (Γ : GE) (o : Oper) (T : List AV) (H : List Ent) (K : Kont) : Option Out → Prop
  | some ⟨c, v, w, _, _, raw⟩ => extK H (kSt T H o.dst K) (condK c (rawK te o.op v (fun v => K ⟨putT T v o.dst, putH H w⟩) raw)) (extOf te T H o.op)
  | none => wSpecial te Γ T H o.dst K o.op
def wOp (te : TE) (Γ : GE) (o : Oper) (T : List AV) (H : List Ent) (K : Kont) : Prop := opK te Γ o T H K (evOp te H.length T H o.op)

def dstAt : List Oper → Nat → Option Nat
  | [], _ => none
  | o :: _, 0 => o.dst
  | _ :: l, j + 1 => dstAt l j

/-- A guarded operation: the guard's value is told, then what is wanted. -/
def guardV (te : TE) (Γ : GE) (o : Oper) (want : Bool) (T : List AV) (H : List Ent) (d : Nat) (K : Kont) : AV → Prop
  | .bool b => ifB b
      (ifB want (wOp te Γ o (T.set d (.bool true)) H K) (K ⟨putT (T.set d (.bool true)) (.tup []) o.dst, H⟩))
      (ifB want (K ⟨putT (T.set d (.bool false)) (.tup []) o.dst, H⟩) (wOp te Γ o (T.set d (.bool false)) H K))
  | .tup [] => K ⟨putT T (.tup []) o.dst, H⟩
  | _ => False
def guardD (te : TE) (Γ : GE) (o : Oper) (want : Bool) (T : List AV) (H : List Ent) (K : Kont) : Option Nat → Prop
  | some d => guardV te Γ o want T H d K (T.getD d .junk)
  | none => False
def wGuard (te : TE) (Γ : GE) (all : List Oper) (o : Oper) (T : List AV) (H : List Ent) (K : Kont) : Option (Nat × Bool) → Prop
  | none => wOp te Γ o T H K
  | some (j, want) => guardD te Γ o want T H K (dstAt all j)

/-- Operations in the order of the text. -/
def wSeq (te : TE) (Γ : GE) (all : List Oper) : List Oper → St → Kont → Prop
  | [], s, K => K s
  | o :: rest, s, K => wGuard te Γ all o s.T s.H (fun s' => wSeq te Γ all rest s' K) o.guard
def kSeq (te : TE) (Γ : GE) (all rest : List Oper) (K : Kont) : Kont := fun s => wSeq te Γ all rest s K

/-- What an operation of a region whose order is open has touched: written, read. -/
structure Foot where
  w : List Nat
  r : List Nat

def fsts : List (Nat × Ent) → List Nat
  | [] => []
  | (q, _) :: w => q :: fsts w

def placeOf : AV → List Nat
  | .own p _ _ => [p]
  | .osub p _ _ _ => [p]
  | .ptr p _ => [p]
  | .eptr p _ _ _ => [p]
  | .agg _ => []
  | .tup _ => []
  | .junk => []
  | .int .. => []
  | .bool _ => []
  | .str _ => []
  | .fn _ => []
  | .sl .. => []
  | .rptr .. => []
def placesOf (T : List AV) : List Operand → List Nat
  | [] => []
  | x :: xs => placeOf (ev T x) ++ placesOf T xs
/-- The places that an operation's evaluation looks at. -/
def opReads (T : List AV) : Op → List Nat
  | .load _ a => placeOf (ev T a)
  | .store _ a _ => placeOf (ev T a)
  | .indexAddr _ x _ => placeOf (ev T x)
  | .slice _ x _ _ _ => placeOf (ev T x)
  | .call ⟨.builtin _, args, _⟩ => placesOf T args.toList
  | _ => []

abbrev KontF := St → Foot → Prop

def isNone : Ent → Bool
  | .none => true
  | .var _ => false
  | .arr .. => false
def placesIn (H : List Ent) : List Nat → Bool
  | [] => true
  | q :: qs => andB (lenLe (q + 1) H) (placesIn H qs)
/-- The reserved place is free; what is written is there. -/
def drOK (p : Nat) (H : List Ent) (w : List (Nat × Ent)) : Bool := andB (isNone (H.getD p .none)) (placesIn H (p :: fsts w))

def drDat (D : DSpec) (p : Nat) (T : List AV) (H : List Ent) (dst : Option Nat) (K : KontF) : Bool → Rs (List AV) → Prop
  | false, some (_, xs) => ∃ r e, D xs (fun r' e' => r' = r ∧ e' = e) ∧ ifB (drOK p H (pushE p e)) (K ⟨putT T (mvR p r) dst, putH H (pushE p e)⟩ ⟨p :: fsts (pushE p e), []⟩) False
  | _, _ => False
def drFn (C : List AV → Prop) (g : List AV → AV) (p : Nat) (T : List AV) (H : List Ent) (dst : Option Nat) (ps : List Nat) (K : KontF) : Bool → Rs (List AV) → Prop
  | false, some (_, xs) => C xs ∧ ifB (drOK p H []) (K ⟨putT T (mvR p (g xs)) dst, H⟩ ⟨[p], []⟩) False
  | true, some (c, xs) => condK c (C xs ∧ (scalar (g xs) ∧ ifB (drOK p H []) (K ⟨putT T (g xs) dst, H⟩ ⟨[p], ps⟩) False))
  | _, none => False
def drFz (C : List AV → Prop) (g : List AV → AV) (p : Nat) (T : List AV) (H : List Ent) (dst : Option Nat) (ps : List Nat) (K : KontF) : Bool → Rs (List AV) → Prop
  | false, some (_, xs) => C xs ∧ ifB (drOK p H []) (K ⟨putT T (mvR p (g xs)) dst, H⟩ ⟨[p], []⟩) False
  | true, some (c, xs) => condK c (C xs ∧ ifB (drOK p H (killW ps H)) (K ⟨putT T (mvR p (g xs)) dst, putH H (killW ps H)⟩ ⟨p :: fsts (killW ps H), ps⟩) False)
  | _, none => False
def drFe (C : List AV → Prop) (g : List AV → AV) (h : List AV → Ent) (p : Nat) (T : List AV) (H : List Ent) (dst : Option Nat) (K : KontF) : Bool → Rs (List AV) → Prop
  | false, some (_, xs) => C xs ∧ ifB (drOK p H (pushE p (h xs))) (K ⟨putT T (mvR p (g xs)) dst, putH H (pushE p (h xs))⟩ ⟨p :: fsts (pushE p (h xs)), []⟩) False
  | _, _ => False
def drCall (p : Nat) (T : List AV) (H : List Ent) (dst : Option Nat) (args : List AV) (K : KontF) : Option Spec → Prop
  | some (.dat D) => drDat D p T H dst K (namesA args) (rslvL H args)
  | some (.fn C g) => drFn C g p T H dst (ownA args) K (namesA args) (rslvL H args)
  | some (.fz C g) => drFz C g p T H dst (ownA args) K (namesA args) (rslvL H args)
  | some (.fe C g h) => drFe C g h p T H dst K (namesA args) (rslvL H args)
  | _ => False
def drSpecial (te : TE) (Γ : GE) (p : Nat) (T : List AV) (H : List Ent) (dst : Option Nat) (K : KontF) : Op → Prop
  | .call ⟨.value f, args, tys⟩ => drCall p T H dst (evs te T args.toList tys.toList) K (calleeOf Γ (ev T f))
  | _ => False
/-- One operation where the order is open: all that it comes to is told. -/
def drK (te : TE) (Γ : GE) (p : Nat) (o : Oper) (T : List AV) (H : List Ent) (K : KontF) : Option Out → Prop
  | some ⟨c, v, w, _, _, raw⟩ => ifB (drOK p H w) (condK c (rawK te o.op v (fun v => K ⟨putT T v o.dst, putH H w⟩ ⟨p :: fsts w, opReads T o.op⟩) raw)) False
  | none => drSpecial te Γ p T H o.dst K o.op
def wDrOp (te : TE) (Γ : GE) (p : Nat) (o : Oper) (T : List AV) (H : List Ent) (K : KontF) : Prop := drK te Γ p o T H K (evOp te p T H o.op)

def drGuardV (te : TE) (Γ : GE) (p : Nat) (o : Oper) (want : Bool) (T : List AV) (H : List Ent) (d : Nat) (K : KontF) : AV → Prop
  | .bool b => ifB b
      (ifB want (wDrOp te Γ p o (T.set d (.bool true)) H K) (K ⟨putT (T.set d (.bool true)) (.tup []) o.dst, H⟩ ⟨[], []⟩))
      (ifB want (K ⟨putT (T.set d (.bool false)) (.tup []) o.dst, H⟩ ⟨[], []⟩) (wDrOp te Γ p o (T.set d (.bool false)) H K))
  | .tup [] => K ⟨putT T (.tup []) o.dst, H⟩ ⟨[], []⟩
  | _ => False
def drGuardD (te : TE) (Γ : GE) (p : Nat) (o : Oper) (want : Bool) (T : List AV) (H : List Ent) (K : KontF) : Option Nat → Prop
  | some d => drGuardV te Γ p o want T H d K (T.getD d .junk)
  | none => False
def drGuard (te : TE) (Γ : GE) (all : List Oper) (p : Nat) (o : Oper) (T : List AV) (H : List Ent) (K : KontF) : Option (Nat × Bool) → Prop
  | none => wDrOp te Γ p o T H K
  | some (j, want) => drGuardD te Γ p o want T H K (dstAt all j)

def wDr (te : TE) (Γ : GE) (all : List Oper) : List Oper → Nat → List Foot → (St → List Foot → Prop) → St → Prop
  | [], _, done, K, s => K s done
  | o :: rest, p, done, K, s => drGuard te Γ all p o s.T s.H (fun s' f => wDr te Γ all rest (p + 1) (f :: done) K s') o.guard
def kDr (te : TE) (Γ : GE) (all rest : List Oper) (p : Nat) (done : List Foot) (K : St → List Foot → Prop) : KontF := fun s f => wDr te Γ all rest (p + 1) (f :: done) K s

/-! What can be said of a region without running it. -/

/-- Does operation i come before one that has these edges, in every order? 'acc' tells it of those in front. -/
def befEdge (acc : List (List Bool)) (i : Nat) (e : Edge) : Bool := Region.binds .any e && (e.on == i || (acc.getD e.on []).getD i false)
def befOne (acc : List (List Bool)) (o : Oper) : List Bool := (List.range acc.length).map fun i => o.after.toList.any (befEdge acc i)
def befGo (acc : List (List Bool)) : List Oper → List (List Bool)
  | [] => acc
  | o :: ops => befGo (acc ++ [befOne acc o]) ops
/-- Which operations come before which in every order: the edges that bind, and what follows of them. -/
def befores (ops : List Oper) : List (List Bool) := befGo [] ops

/-- From here on each operation comes after all in front of it. -/
def freeM (b : List (List Bool)) : Nat := (b.reverse.dropWhile (·.all id)).length

def apartRow (all : Array Oper) (oj : Oper) : List Oper → List Bool → Bool
  | [], _ => true
  | _ :: ops, true :: bs => apartRow all oj ops bs
  | o :: ops, false :: bs => Oper.apart all o oj && Oper.apart all oj o && apartRow all oj ops bs
  | _ :: _, [] => false
def statOne (all : Array Oper) (prev : List Oper) (j : Nat) (o : Oper) (bj : List Bool) : Bool :=
  o.after.toList.all (fun e => !Region.binds .any e || decide (e.on < j)) &&
  (match o.guard with
    | none => true
    | some (g, _) => bj.getD g false) &&
  apartRow all o prev bj
def statGo (all : Array Oper) (prev : List Oper) (j : Nat) : List Oper → List (List Bool) → Bool
  | [], _ => true
  | o :: ops, bj :: bs => statOne all prev j o bj && statGo all (prev ++ [o]) (j + 1) ops bs
  | _ :: _, [] => false
/-- Of each two operations whose order is open: they don't touch each other's temporaries. -/
def staticOK (ops : List Oper) (b : List (List Bool)) : Bool := statGo ops.toArray [] 0 ops b

def memN (x : Nat) : List Nat → Bool
  | [] => false
  | y :: l => orB (eqb x y) (memN x l)
def disj : List Nat → List Nat → Bool
  | [], _ => true
  | x :: a, b => andB (ifN (memN x b)) (disj a b)
where ifN : Bool → Bool
  | true => false
  | false => true

def footOK (f g : Foot) : Bool := andB (disj f.w g.w) (andB (disj f.w g.r) (disj f.r g.w))

def dynRow (f : Foot) : List Foot → List Bool → Bool
  | [], _ => true
  | _ :: gs, true :: bs => dynRow f gs bs
  | g :: gs, false :: bs => andB (footOK g f) (dynRow f gs bs)
  | _ :: _, [] => false
def dynGo (prev : List Foot) : List Foot → List (List Bool) → Bool
  | [], _ => true
  | f :: fs, bj :: bs => andB (dynRow f prev bj) (dynGo (prev ++ [f]) fs bs)
  | _ :: _, [] => false
/-- Of each two operations whose order is open: they don't touch each other's places. 'done' bears the last operation first. -/
def dynOK (done : List Foot) (b : List (List Bool)) : Bool := dynGo [] done.reverse b

def takeL {α : Type} : Nat → List α → List α
  | 0, _ => []
  | _ + 1, [] => []
  | n + 1, x :: l => x :: takeL n l
def dropL {α : Type} : Nat → List α → List α
  | 0, l => l
  | _ + 1, [] => []
  | n + 1, _ :: l => dropL n l

def nones : Nat → List Ent
  | 0 => []
  | n + 1 => .none :: nones n

def kDraw (te : TE) (Γ : GE) (all : List Oper) (m : Nat) (b : List (List Bool)) (K : Kont) : St → List Foot → Prop :=
  fun s done => ifB (dynOK done b) (wSeq te Γ all (dropL m all) s K) False
def wDrawM (te : TE) (Γ : GE) (all : List Oper) (b : List (List Bool)) (m : Nat) (s : St) (K : Kont) : Prop :=
  ifB (staticOK all b) (wDr te Γ all (takeL m all) s.H.length [] (kDraw te Γ all m b K) ⟨s.T, s.H ++ nones m⟩) False
/-- A region that draws its order. -/
def wDraw (te : TE) (Γ : GE) (all : List Oper) (s : St) (K : Kont) : Prop := wDrawM te Γ all (befores all) (freeM (befores all)) s K

inductive Ex where
  | normal
  | exit (id : Nat)
  | ret

/-- Forget: the slots that are not kept, and what lies in the memory from a place on. -/
def maskT : List Bool → List AV → List AV
  | true :: k, v :: T => v :: maskT k T
  | false :: k, _ :: T => .junk :: maskT k T
  | [], _ :: T => .junk :: maskT [] T
  | _, [] => []

def below1 (n : Nat) : AV → Bool
  | .own q _ _ => leb (q + 1) n
  | .osub q _ _ _ => leb (q + 1) n
  | .ptr q _ => leb (q + 1) n
  | .eptr q _ _ _ => leb (q + 1) n
  | .agg _ => false
  | .tup _ => false
  | .junk => true
  | .int .. => true
  | .bool _ => true
  | .str _ => true
  | .fn _ => true
  | .sl .. => true
  | .rptr .. => true
def belowL (n : Nat) : List AV → Bool
  | [] => true
  | v :: vs => andB (below1 n v) (belowL n vs)
def below (n : Nat) : AV → Bool
  | .agg cs => belowL n cs
  | .own q _ _ => leb (q + 1) n
  | .osub q _ _ _ => leb (q + 1) n
  | .ptr q _ => leb (q + 1) n
  | .eptr q _ _ _ => leb (q + 1) n
  | .tup _ => false
  | .junk => true
  | .int .. => true
  | .bool _ => true
  | .str _ => true
  | .fn _ => true
  | .sl .. => true
  | .rptr .. => true
def belowT (n : Nat) : List AV → Bool
  | [] => true
  | v :: vs => andB (below n v) (belowT n vs)
def belowE (n : Nat) : Ent → Bool
  | .none => true
  | .var cs => belowT n cs
  | .arr cl _ _ _ _ => cl
def belowH (n : Nat) : List Ent → Bool
  | [] => true
  | e :: H => andB (belowE n e) (belowH n H)

def cut (keep : List Bool) (nh : Nat) (s : St) : St := ⟨maskT keep s.T, takeL nh s.H⟩
def cutOK (keep : List Bool) (nh : Nat) (s : St) : Bool := andB (lenLe nh s.H) (andB (belowT nh (maskT keep s.T)) (belowH nh (takeL nh s.H)))

abbrev KontX := Ex → St → Prop

def seqQ (f : St → KontX → Prop) (Q : KontX) : KontX
  | .normal, s => f s Q
  | .exit i, s => Q (.exit i) s
  | .ret, s => Q .ret s
def exitQ (i : Nat) (Q : KontX) (s : St) : Bool → Prop
  | true => Q .normal s
  | false => Q (.exit i) s
def blkQ (id : Nat) (Q : KontX) : KontX
  | .normal, s => Q .normal s
  | .exit i, s => exitQ i Q s (eqb i id)
  | .ret, s => Q .ret s
def roundQ (keep : List Bool) (nh : Nat) (I : Nat → St → Prop) (n : Nat) (Q : KontX) : KontX
  | .normal, s => cutOK keep nh s = true ∧ ∃ m, m < n ∧ I m (cut keep nh s)
  | .exit i, s => cutOK keep nh s = true ∧ Q (.exit i) (cut keep nh s)
  | .ret, s => Q .ret s
def kNormal (Q : KontX) : Kont := fun s => Q .normal s
def condV (A B : Prop) : AV → Prop
  | .bool b => ifB b A B
  | _ => False
def wRegion (te : TE) (Γ : GE) (ops : List Oper) (s : St) (K : Kont) : Bool → Prop
  | false => wSeq te Γ ops ops s K
  | true => wDraw te Γ ops s K

/-- A loop: what is kept, what holds at the head of each round. -/
def wLoop (fl : Nat) (body : St → KontX → Prop) (s : St) (Q : KontX) : Prop :=
  ∃ (keep : List Bool) (nh : Nat) (I : Nat → St → Prop), fl ≤ nh ∧ (cutOK keep nh s = true ∧ ∃ n, I n (cut keep nh s)) ∧ ∀ n s1, I n s1 → body s1 (roundQ keep nh I n Q)

def wCode (te : TE) (Γ : GE) (fl : Nat) : Code → St → KontX → Prop
  | .skip, s, Q => Q .normal s
  | .region _ ops dr, s, Q => wRegion te Γ ops.toList s (kNormal Q) dr
  | .seq a b, s, Q => wCode te Γ fl a s (seqQ (wCode te Γ fl b) Q)
  | .cond c a b, s, Q => condV (wCode te Γ fl a s Q) (wCode te Γ fl b s Q) (ev s.T c)
  | .block id c, s, Q => wCode te Γ fl c s (blkQ id Q)
  | .loop c, s, Q => wLoop fl (wCode te Γ fl c) s Q
  | .exit i, s, Q => Q (.exit i) s
  | .ret, s, Q => Q .ret s
  | _, _, _ => False

/-- A piece of a function's code. -/
def codeFst : Code → Code
  | .seq a _ => a
  | .cond _ a _ => a
  | .block _ c => c
  | .loop c => c
  | c => c
def codeSnd : Code → Code
  | .seq _ b => b
  | .cond _ _ b => b
  | c => c
def codeAt : List Bool → Code → Code
  | [], c => c
  | true :: l, c => codeAt l (codeFst c)
  | false :: l, c => codeAt l (codeSnd c)
def bodyAt (fn : Func) (l : List Bool) : Code := codeAt l (fn.body.getD .skip)

def outV : Option Out → Option AV
  | some ⟨none, v, _, _, _, false⟩ => some v
  | _ => none
def resOne (te : TE) (T : List AV) (H : List Ent) (t : TypeId) : ResultVar → Option AV
  | .tmp i => some (rty te t (T.getD i .junk))
  | .cell a t => outV (evLoadT H (T.getD a .junk) (te t))
def consO : Option AV → Option (List AV) → Option (List AV)
  | some v, some vs => some (v :: vs)
  | _, _ => none
def resAll (te : TE) (T : List AV) (H : List Ent) : List TypeId → List ResultVar → Option (List AV)
  | _, [] => some []
  | [], _ :: _ => none
  | t :: ts, r :: rs => consO (resOne te T H t r) (resAll te T H ts rs)
def resV : Option (List AV) → Option AV
  | some [v] => some v
  | some [] => some (.tup [])
  | some (v :: u :: vs) => some (.tup (v :: u :: vs))
  | none => none
def resK (Φ : AV → List Ent → Prop) (H : List Ent) : Option AV → Prop
  | some v => Φ v H
  | none => False
def endQ (te : TE) (fn : Func) (Φ : AV → List Ent → Prop) : KontX
  | .normal, s => resK Φ s.H (resV (resAll te s.T s.H fn.resultTypes.toList fn.results.toList))
  | .ret, s => resK Φ s.H (resV (resAll te s.T s.H fn.resultTypes.toList fn.results.toList))
  | .exit _, _ => False

def padTo : Nat → List AV → List AV
  | 0, _ => []
  | n + 1, [] => .junk :: padTo n []
  | n + 1, v :: vs => v :: padTo n vs

def wBody (te : TE) (Γ : GE) (fn : Func) (args : List AV) (H : List Ent) (Φ : AV → List Ent → Prop) : Option Code → Prop
  | some c => wCode te Γ H.length c ⟨padTo fn.ntmps args, H⟩ (endQ te fn Φ)
  | none => False
/-- A function's body, its arguments given. -/
def wFunB (te : TE) (Γ : GE) (fn : Func) (args : List AV) (H : List Ent) (Φ : AV → List Ent → Prop) : Bool → Prop
  | true => wBody te Γ fn args H Φ fn.body
  | false => False
def wFun (te : TE) (Γ : GE) (fn : Func) : GSpec := fun args H Φ => wFunB te Γ fn args H Φ (leb args.length fn.ntmps)

def datR (Φ : AV → Ent → Prop) : Rs AV → Prop
  | some (c, x) => condK c (Φ x .none)
  | none => False
/-- At the end of a function under a contract on data. -/
def datFin (Φ : AV → Ent → Prop) : AV → List Ent → Prop := fun r H => datR Φ (rslvR H r)

end Go.Rf
end
/-
  THE SYMBOLIC EXECUTOR, part 3: when a machine's value is told by an abstract one; when the machine's memory is told by the abstract memory.
-/
section
set_option linter.unusedVariables false
set_option linter.unusedSimpArgs false
namespace Go.Rf

/-- Where a place of the abstract memory lies: its block, how many elements fit, which version it is, how many cells an element has. -/
structure Loc where
  blk : Nat
  cap : Nat
  ver : Nat
  sz : Nat

abbrev Reg := Nat → Loc

/-- A value is told by an abstract value. S: the blocks that nobody writes any more. n: how many places there are. -/
inductive Rd (w : World) (S : Nat → Prop) (ρ : Reg) : Nat → AV → Value → Prop
  | junk (n : Nat) (v : Value) : Rd w S ρ n .junk v
  | int (n : Nat) (k : IntKind) (x : Int) : Rd w S ρ n (.int k x) (.int k x)
  | bool (n : Nat) (b : Bool) : Rd w S ρ n (.bool b) (.bool b)
  | str (n : Nat) (s : ByteArray) : Rd w S ρ n (.str s) (.string s)
  | fn (n : Nat) (f : FuncId) : Rd w S ρ n (.fn f) (.func (.func f) #[] #[])
  | agg (n : Nat) (cs : List AV) (vs : List Value) (hl : cs.length = vs.length) (h1 : ∀ v ∈ vs, v.oneCell' = true)
      (h : ∀ (i : Nat) (a : AV) (v : Value), cs[i]? = some a → vs[i]? = some v → Rd w S ρ n a v) : Rd w S ρ n (.agg cs) (.agg vs.toArray)
  | tup (n : Nat) (cs : List AV) (vs : List Value) (hl : cs.length = vs.length)
      (h : ∀ (i : Nat) (a : AV) (v : Value), cs[i]? = some a → vs[i]? = some v → Rd w S ρ n a v) : Rd w S ρ n (.tup cs) (.tuple vs.toArray)
  | sl (n sz : Nat) (fr : Bool) (es : List (List AV)) (A : Option Addr) (len cap : Nat) (cell : Nat → Nat → Value) (hl : es.length = len) (hc : len ≤ cap) (hm : cap ≤ maxLen)
      (hf : fr = true → cap = len) (hsz : ∀ e ∈ es, e.length = sz)
      (hcell : ∀ i k, i < len → k < sz → ∃ a, A = some a ∧ S a.block ∧ w.cell? (a.add (i * sz + k)) = some (cell i k) ∧ (cell i k).oneCell' = true)
      (hA : 0 < len → A.isSome = true)
      (h : ∀ (i k : Nat) (e : List AV) (a : AV), es[i]? = some e → e[k]? = some a → Rd w S ρ 0 a (cell i k)) : Rd w S ρ n (.sl sz fr es) (.slice A len cap)
  | own (n p ver len : Nat) (A : Option Addr) (cap : Nat) (hp : p < n) (hv : ver ≤ (ρ p).ver) (hc : len ≤ cap) (hA : 0 < len → A.isSome = true)
      (h : ver = (ρ p).ver → cap = (ρ p).cap ∧ (0 < cap → A = some ⟨(ρ p).blk, 0, none⟩)) : Rd w S ρ n (.own p ver len) (.slice A len cap)
  | osub (n p ver off len : Nat) (A : Option Addr) (cap : Nat) (hp : p < n) (hv : ver ≤ (ρ p).ver) (hc : len ≤ cap) (hA : 0 < len → A.isSome = true)
      (h : ver = (ρ p).ver → off + cap = (ρ p).cap ∧ (0 < cap → A = some ⟨(ρ p).blk, off * (ρ p).sz, none⟩)) : Rd w S ρ n (.osub p ver off len) (.slice A len cap)
  | ptr (n p off : Nat) (A : Addr) (hp : p < n) (hv : 1 ≤ (ρ p).ver) (h : (ρ p).ver = 1 → A = ⟨(ρ p).blk, off, none⟩) : Rd w S ρ n (.ptr p off) (.pointer (some A))
  | eptr (n p ver i k : Nat) (A : Addr) (hp : p < n) (hv : ver ≤ (ρ p).ver) (h : ver = (ρ p).ver → i < (ρ p).cap → A = ⟨(ρ p).blk, i * (ρ p).sz + k, none⟩) : Rd w S ρ n (.eptr p ver i k) (.pointer (some A))
  | rptr (n sz : Nat) (es : List (List AV)) (i k : Nat) (a : Addr) (e : List AV) (cell : Nat → Value) (he : es[i]? = some e) (hl : e.length = sz)
      (hcell : ∀ j, k ≤ j → j < sz → S a.block ∧ w.cell? (a.add (j - k)) = some (cell j) ∧ (cell j).oneCell' = true)
      (h : ∀ (j : Nat) (x : AV), e[j]? = some x → Rd w S ρ 0 x (cell j)) : Rd w S ρ n (.rptr sz es i k) (.pointer (some a))

/-- Later memory: what was stable is, and reads the same. -/
def Later (S S' : Nat → Prop) (w w' : World) : Prop := ∀ k, S k → S' k ∧ w'.heap[k]? = w.heap[k]?
def Newer (ρ ρ' : Reg) (n : Nat) : Prop := ∀ p, p < n → ρ' p = ρ p ∨ (ρ p).ver < (ρ' p).ver

theorem Later.refl (S : Nat → Prop) (w : World) : Later S S w w := fun _ h => ⟨h, rfl⟩
theorem Later.trans {S S' S'' : Nat → Prop} {w w' w'' : World} (h : Later S S' w w') (k : Later S' S'' w' w'') : Later S S'' w w'' :=
  fun i hi => ⟨(k i (h i hi).1).1, (k i (h i hi).1).2.trans (h i hi).2⟩
theorem Newer.refl (ρ : Reg) (n : Nat) : Newer ρ ρ n := fun _ _ => .inl rfl
theorem Newer.trans {ρ ρ' ρ'' : Reg} {n : Nat} (h : Newer ρ ρ' n) (k : Newer ρ' ρ'' n) : Newer ρ ρ'' n := by
  intro p hp
  rcases h p hp with h1 | h1 <;> rcases k p hp with k1 | k1
  · exact .inl (k1.trans h1)
  · exact .inr (by rw [← h1]; exact k1)
  · exact .inr (by rw [k1]; exact h1)
  · exact .inr (Nat.lt_trans h1 k1)
theorem Newer.mono {ρ ρ' : Reg} {n m : Nat} (h : Newer ρ ρ' n) (hm : m ≤ n) : Newer ρ ρ' m := fun p hp => h p (Nat.lt_of_lt_of_le hp hm)

theorem cell_later {S S' : Nat → Prop} {w w' : World} (h : Later S S' w w') {a : Addr} (ha : S a.block) (j : Nat) : w'.cell? (a.add j) = w.cell? (a.add j) := by
  have hb : (a.add j).block = a.block := by unfold Addr.add; split <;> rfl
  exact World.cell?_of_block (by rw [hb]; exact (h _ ha).2)

theorem Rd.mono {w w' : World} {S S' : Nat → Prop} {ρ ρ' : Reg} {n : Nat} {a : AV} {v : Value} (h : Rd w S ρ n a v) (hS : Later S S' w w') :
    ∀ {m : Nat}, n ≤ m → Newer ρ ρ' n → Rd w' S' ρ' m a v := by
  induction h with
  | junk => intro m _ _; exact .junk _ _
  | int => intro m _ _; exact .int _ _ _
  | bool => intro m _ _; exact .bool _ _
  | str => intro m _ _; exact .str _ _
  | fn => intro m _ _; exact .fn _ _
  | agg n cs vs hl h1 h ih => intro m hm hn; exact .agg _ cs vs hl h1 fun i a v ha hv => ih i a v ha hv hm hn
  | tup n cs vs hl h ih => intro m hm hn; exact .tup _ cs vs hl fun i a v ha hv => ih i a v ha hv hm hn
  | sl n sz fr es A len cap cell hl hc hx hf hsz hcell hA h ih =>
    intro m hm hn
    refine .sl _ sz fr es A len cap cell hl hc hx hf hsz (fun i k hi hk => ?_) hA fun i k e a he ha => ih i k e a he ha (Nat.le_refl _) (fun p hp => absurd hp (by omega))
    obtain ⟨a, h1, h2, h3, h4⟩ := hcell i k hi hk
    exact ⟨a, h1, (hS _ h2).1, (cell_later hS h2 _).trans h3, h4⟩
  | own n p ver len A cap hp hv hc hA h =>
    intro m hm hn
    rcases hn p hp with e | e
    · exact .own _ _ _ _ _ _ (by omega) (by rw [e]; exact hv) hc hA (by rw [e]; exact h)
    · exact .own _ _ _ _ _ _ (by omega) (by omega) hc hA (fun h' => absurd h' (by omega))
  | osub n p ver off len A cap hp hv hc hA h =>
    intro m hm hn
    rcases hn p hp with e | e
    · exact .osub _ _ _ _ _ _ _ (by omega) (by rw [e]; exact hv) hc hA (by rw [e]; exact h)
    · exact .osub _ _ _ _ _ _ _ (by omega) (by omega) hc hA (fun h' => absurd h' (by omega))
  | ptr n p off A hp hv h =>
    intro m hm hn
    rcases hn p hp with e | e
    · exact .ptr _ _ _ _ (by omega) (by rw [e]; exact hv) (by rw [e]; exact h)
    · exact .ptr _ _ _ _ (by omega) (by omega) (fun h' => absurd h' (by omega))
  | eptr n p ver i k A hp hv h =>
    intro m hm hn
    rcases hn p hp with e | e
    · exact .eptr _ _ _ _ _ _ (by omega) (by rw [e]; exact hv) (by rw [e]; exact h)
    · exact .eptr _ _ _ _ _ _ (by omega) (by omega) (fun h' => absurd h' (by omega))
  | rptr n sz es i k a e cell he hl hcell h ih =>
    intro m hm hn
    refine .rptr _ sz es i k a e cell he hl (fun j h1 h2 => ?_) fun j x hx => ih j x hx (Nat.le_refl _) (fun p hp => absurd hp (by omega))
    obtain ⟨h3, h4, h5⟩ := hcell j h1 h2
    exact ⟨(hS _ h3).1, (cell_later hS h3 _).trans h4, h5⟩

theorem leb_le : ∀ {n m : Nat}, leb n m = true → n ≤ m
  | 0, _, _ => Nat.zero_le _
  | n + 1, 0, h => by simp [leb] at h
  | n + 1, m + 1, h => Nat.succ_le_succ (leb_le (n := n) (m := m) h)
theorem eqb_eq : ∀ {n m : Nat}, eqb n m = true → n = m
  | 0, 0, _ => rfl
  | 0, m + 1, h => by simp [eqb] at h
  | n + 1, 0, h => by simp [eqb] at h
  | n + 1, m + 1, h => congrArg (· + 1) (eqb_eq (n := n) (m := m) h)
theorem kn_eq {k l : IntKind} (h : eqb (kn k) (kn l) = true) : k = l := by cases k <;> cases l <;> first | rfl | (exact absurd h (by decide))
theorem lenLe_le {α : Type} : ∀ {n : Nat} {l : List α}, lenLe n l = true → n ≤ l.length
  | 0, _, _ => Nat.zero_le _
  | n + 1, [], h => by simp [lenLe] at h
  | n + 1, _ :: l, h => Nat.succ_le_succ (lenLe_le (n := n) (l := l) h)
theorem lenEq_eq {α : Type} : ∀ {n : Nat} {l : List α}, lenEq n l = true → l.length = n
  | 0, [], _ => rfl
  | 0, _ :: _, h => by simp [lenEq] at h
  | n + 1, [], h => by simp [lenEq] at h
  | n + 1, _ :: l, h => congrArg (· + 1) (lenEq_eq (n := n) (l := l) h)
theorem andB_true {a b : Bool} (h : andB a b = true) : a = true ∧ b = true := by cases a <;> cases b <;> simp_all [andB]
theorem orB_false {a b : Bool} (h : orB a b = false) : a = false ∧ b = false := by cases a <;> cases b <;> simp_all [orB]
theorem ifo_some {α : Type} {b : Bool} {x : Option α} {y : α} (h : ifo b x = some y) : b = true ∧ x = some y := by cases b <;> simp_all [ifo]

/-- What names no place beyond n needs no more than n. -/
theorem Rd.below1 {w : World} {S : Nat → Prop} {ρ : Reg} {n m : Nat} {a : AV} {v : Value} (h : Rd w S ρ n a v) (hb : below1 m a = true) : Rd w S ρ m a v := by
  cases h with
  | junk => exact .junk _ _
  | int => exact .int _ _ _
  | bool => exact .bool _ _
  | str => exact .str _ _
  | fn => exact .fn _ _
  | agg => simp [Rf.below1] at hb
  | tup => simp [Rf.below1] at hb
  | sl _ sz fr es A len cap cell hl hc hx hf hsz hcell hA h => exact .sl _ sz fr es A len cap cell hl hc hx hf hsz hcell hA h
  | own _ p ver len A cap hp hv hc hA h => exact .own _ _ _ _ _ _ (leb_le hb) hv hc hA h
  | osub _ p ver off len A cap hp hv hc hA h => exact .osub _ _ _ _ _ _ _ (leb_le hb) hv hc hA h
  | ptr _ p off A hp hv h => exact .ptr _ _ _ _ (leb_le hb) hv h
  | eptr _ p ver i k A hp hv h => exact .eptr _ _ _ _ _ _ (leb_le hb) hv h
  | rptr _ sz es i k a e cell he hl hcell h => exact .rptr _ sz es i k a e cell he hl hcell h

theorem Rd.belowL {w : World} {S : Nat → Prop} {ρ : Reg} {n m : Nat} : ∀ {cs : List AV}, belowL m cs = true → ∀ (i : Nat) (a : AV) (v : Value), cs[i]? = some a → Rd w S ρ n a v → Rd w S ρ m a v
  | [], _, i, a, v, h, _ => by simp at h
  | c :: cs, hb, i, a, v, h, hr => by
    obtain ⟨h1, h2⟩ := andB_true hb
    cases i with
    | zero => simp at h; subst h; exact hr.below1 h1
    | succ i => exact Rd.belowL h2 i a v (by simpa using h) hr

theorem Rd.under {w : World} {S : Nat → Prop} {ρ : Reg} {n m : Nat} {a : AV} {v : Value} (h : Rd w S ρ n a v) (hb : Rf.below m a = true) : Rd w S ρ m a v := by
  cases h with
  | agg _ cs vs hl h1 h => exact .agg _ cs vs hl h1 fun i a v ha hv => Rd.belowL hb i a v ha (h i a v ha hv)
  | tup => simp [Rf.below] at hb
  | junk => exact .junk _ _
  | int => exact .int _ _ _
  | bool => exact .bool _ _
  | str => exact .str _ _
  | fn => exact .fn _ _
  | sl _ sz fr es A len cap cell hl hc hx hf hsz hcell hA h => exact .sl _ sz fr es A len cap cell hl hc hx hf hsz hcell hA h
  | own _ p ver len A cap hp hv hc hA h => exact .own _ _ _ _ _ _ (leb_le hb) hv hc hA h
  | osub _ p ver off len A cap hp hv hc hA h => exact .osub _ _ _ _ _ _ _ (leb_le hb) hv hc hA h
  | ptr _ p off A hp hv h => exact .ptr _ _ _ _ (leb_le hb) hv h
  | eptr _ p ver i k A hp hv h => exact .eptr _ _ _ _ _ _ (leb_le hb) hv h
  | rptr _ sz es i k a e cell he hl hcell h => exact .rptr _ sz es i k a e cell he hl hcell h

theorem Rd.closed1 {w : World} {S : Nat → Prop} {ρ : Reg} {n : Nat} {a : AV} {v : Value} (h : Rd w S ρ n a v) (hb : closed1 a = true) : Rd w S ρ 0 a v := by
  cases h <;> first
    | (simp [Rf.closed1] at hb; done)
    | exact .junk _ _
    | exact .int _ _ _
    | exact .bool _ _
    | exact .str _ _
    | exact .fn _ _
    | (rename_i sz fr es A len cap cell hl hc hx hf hsz hcell hA h; exact .sl _ sz fr es A len cap cell hl hc hx hf hsz hcell hA h)

theorem Rd.names1 {w : World} {S : Nat → Prop} {ρ : Reg} {n : Nat} {a : AV} {v : Value} (h : Rd w S ρ n a v) (hb : names1 a = false) : Rd w S ρ 0 a v := by
  cases h <;> first
    | (simp [Rf.names1] at hb; done)
    | exact .int _ _ _
    | exact .bool _ _
    | exact .str _ _
    | exact .fn _ _
    | (rename_i sz fr es A len cap cell hl hc hx hf hsz hcell hA h; exact .sl _ sz fr es A len cap cell hl hc hx hf hsz hcell hA h)

/-- Forgetting the right to append. -/
theorem Rd.nf {w : World} {S : Nat → Prop} {ρ : Reg} {n : Nat} {a : AV} {v : Value} (h : Rd w S ρ n a v) : Rd w S ρ n (nf a) v := by
  cases h with
  | sl _ sz fr es A len cap cell hl hc hx hf hsz hcell hA h => exact .sl _ sz false es A len cap cell hl hc hx (by simp) hsz hcell hA h
  | agg _ cs vs hl h1 h => exact .agg _ cs vs hl h1 h
  | tup _ cs vs hl h => exact .tup _ cs vs hl h
  | junk => exact .junk _ _
  | int => exact .int _ _ _
  | bool => exact .bool _ _
  | str => exact .str _ _
  | fn => exact .fn _ _
  | own _ p ver len A cap hp hv hc hA h => exact .own _ _ _ _ _ _ hp hv hc hA h
  | osub _ p ver off len A cap hp hv hc hA h => exact .osub _ _ _ _ _ _ _ hp hv hc hA h
  | ptr _ p off A hp hv h => exact .ptr _ _ _ _ hp hv h
  | eptr _ p ver i k A hp hv h => exact .eptr _ _ _ _ _ _ hp hv h
  | rptr _ sz es i k a e cell he hl hcell h => exact .rptr _ sz es i k a e cell he hl hcell h

theorem nfs_get : ∀ (cs : List AV) (i : Nat), (nfs cs)[i]? = cs[i]?.map nf
  | [], i => by simp [nfs]
  | c :: cs, 0 => by simp [nfs]
  | c :: cs, i + 1 => by simpa [nfs] using nfs_get cs i
theorem nfs_length : ∀ (cs : List AV), (nfs cs).length = cs.length
  | [] => rfl
  | _ :: cs => congrArg (· + 1) (nfs_length cs)

/-! ### The memory -/
def live (ρ : Reg) (p : Nat) : Ent → Prop
  | .none => False
  | .var _ => True
  | .arr .. => 0 < (ρ p).cap

/-- A row of cells, told. -/
def CellsRd (w : World) (S : Nat → Prop) (ρ : Reg) (n : Nat) (cells : List AV) (cs : Array Value) : Prop :=
  cs.size = cells.length ∧ (∀ v ∈ cs, v.oneCell' = true) ∧ ∀ (i : Nat) (a : AV) (v : Value), cells[i]? = some a → cs[i]? = some v → Rd w S ρ n a v

def EntRd (w : World) (S : Nat → Prop) (ρ : Reg) (n p : Nat) : Ent → Prop
  | .none => (ρ p).ver = 0
  | .var cells => (ρ p).ver = 1 ∧ ∃ cs ty, w.heap[(ρ p).blk]? = some (.cells cs ty (0, 0)) ∧ CellsRd w S ρ n cells cs
  | .arr cl ver sz cap es => (ρ p).ver = ver ∧ 0 < ver ∧ (ρ p).sz = sz ∧ 0 < sz ∧ es.length ≤ (ρ p).cap ∧ (ρ p).cap ≤ maxLen ∧ (∀ c, cap = some c → c = (ρ p).cap) ∧ (∀ e ∈ es, e.length = sz) ∧
      (0 < (ρ p).cap → ∃ cs ty, w.heap[(ρ p).blk]? = some (.cells cs ty (0, 0)) ∧ cs.size = (ρ p).cap * sz ∧ (∀ v ∈ cs, v.oneCell' = true) ∧
        ∀ (i k : Nat) (e : List AV) (a : AV) (v : Value), es[i]? = some e → e[k]? = some a → cs[i * sz + k]? = some v → Rd w S ρ (if cl then 0 else n) a v)

/-- The blocks of the call's own. -/
def Own (ρ : Reg) (H : List Ent) (k : Nat) : Prop := ∃ p e, H[p]? = some e ∧ live ρ p e ∧ (ρ p).blk = k

structure RH (w : World) (S : Nat → Prop) (ρ : Reg) (H : List Ent) : Prop where
  ent : ∀ p e, H[p]? = some e → EntRd w S ρ H.length p e
  apart : ∀ p q e f, H[p]? = some e → H[q]? = some f → live ρ p e → live ρ q f → p ≠ q → (ρ p).blk ≠ (ρ q).blk
  stab : ∀ k, S k → k < w.heap.size ∧ ¬ Own ρ H k

/-- How the memory goes on. -/
structure Goes (w : World) (S : Nat → Prop) (ρ : Reg) (H : List Ent) (w' : World) (S' : Nat → Prop) (ρ' : Reg) (H' : List Ent) (fl : Nat) : Prop where
  os : w'.os = w.os
  tape : w'.tape = w.tape
  output : w'.output = w.output
  size : w.heap.size ≤ w'.heap.size
  keep : ∀ k, k < w.heap.size → ¬ Own ρ H k → w'.heap[k]? = w.heap[k]?
  own : ∀ k, Own ρ' H' k → Own ρ H k ∨ w.heap.size ≤ k
  up : ∀ k, S k → S' k
  down : ∀ k, S' k → S k ∨ Own ρ H k ∨ w.heap.size ≤ k
  len : fl ≤ H'.length
  newer : Newer ρ ρ' fl

theorem Goes.refl (w : World) (S : Nat → Prop) (ρ : Reg) (H : List Ent) {fl : Nat} (h : fl ≤ H.length) : Goes w S ρ H w S ρ H fl :=
  ⟨rfl, rfl, rfl, Nat.le_refl _, fun _ _ _ => rfl, fun _ h => .inl h, fun _ h => h, fun _ h => .inl h, h, Newer.refl _ _⟩

theorem Goes.trans {w w' w'' : World} {S S' S'' : Nat → Prop} {ρ ρ' ρ'' : Reg} {H H' H'' : List Ent} {fl : Nat}
    (h : Goes w S ρ H w' S' ρ' H' fl) (k : Goes w' S' ρ' H' w'' S'' ρ'' H'' fl) : Goes w S ρ H w'' S'' ρ'' H'' fl where
  os := k.os.trans h.os
  tape := k.tape.trans h.tape
  output := k.output.trans h.output
  size := Nat.le_trans h.size k.size
  keep := fun i hi hn => (k.keep i (Nat.lt_of_lt_of_le hi h.size) (fun ho => by rcases h.own i ho with h1 | h1; exact hn h1; omega)).trans (h.keep i hi hn)
  own := fun i hi => by
    rcases k.own i hi with h1 | h1
    · exact h.own i h1
    · exact .inr (Nat.le_trans h.size h1)
  up := fun i hi => k.up i (h.up i hi)
  down := fun i hi => by
    rcases k.down i hi with h1 | h1 | h1
    · exact h.down i h1
    · exact .inr (h.own i h1)
    · exact .inr (.inr (Nat.le_trans h.size h1))
  len := k.len
  newer := h.newer.trans k.newer

theorem Goes.mono {w w' : World} {S S' : Nat → Prop} {ρ ρ' : Reg} {H H' : List Ent} {fl fm : Nat} (h : Goes w S ρ H w' S' ρ' H' fl) (hm : fm ≤ fl) : Goes w S ρ H w' S' ρ' H' fm :=
  { h with len := Nat.le_trans hm h.len, newer := h.newer.mono hm }

theorem Goes.later {w w' : World} {S S' : Nat → Prop} {ρ ρ' : Reg} {H H' : List Ent} {fl : Nat} (h : Goes w S ρ H w' S' ρ' H' fl) (hr : RH w S ρ H) : Later S S' w w' :=
  fun k hk => ⟨h.up k hk, h.keep k (hr.stab k hk).1 (hr.stab k hk).2⟩

theorem Goes.rd {w w' : World} {S S' : Nat → Prop} {ρ ρ' : Reg} {H H' : List Ent} {fl : Nat} (h : Goes w S ρ H w' S' ρ' H' fl) (hr : RH w S ρ H) {n m : Nat} (hn : n ≤ fl) (hm : n ≤ m)
    {a : AV} {v : Value} (hv : Rd w S ρ n a v) : Rd w' S' ρ' m a v := hv.mono (h.later hr) hm (h.newer.mono hn)

/-- The frame's temporaries and the memory. -/
structure RS (w : World) (S : Nat → Prop) (ρ : Reg) (s : St) (a : Act) : Prop where
  size : a.tmps.size = s.T.length
  tmp : ∀ (i : Nat) (x : AV) (v : Value), s.T[i]? = some x → a.tmps[i]? = some v → Rd w S ρ s.H.length x v
  mem : RH w S ρ s.H
  defers : a.defers = []

theorem RS.ev {w : World} {S : Nat → Prop} {ρ : Reg} {s : St} {a : Act} (h : RS w S ρ s a) (x : Operand) : Rd w S ρ s.H.length (ev s.T x) (a.eval x) := by
  cases x with
  | tmp t =>
    simp only [Rf.ev, Act.eval]
    rcases Nat.lt_or_ge t s.T.length with hl | hl
    · have h1 : s.T[t]? = some s.T[t] := List.getElem?_eq_getElem hl
      have h2 : a.tmps[t]? = some (a.tmps[t]'(by rw [h.size]; exact hl)) := Array.getElem?_eq_getElem _
      have := h.tmp t _ _ h1 h2
      simpa [List.getD_eq_getElem?_getD, Array.getD_eq_getD_getElem?, h1, h2] using this
    · simp [List.getD_eq_getElem?_getD, List.getElem?_eq_none hl]
      exact .junk _ _
  | const v =>
    simp only [Rf.ev, Act.eval]
    unfold avOf
    split
    · exact .bool _ _
    · exact .int _ _ _
    · exact .str _ _
    · exact .sl _ 0 true [] none 0 0 (fun _ _ => default) rfl (Nat.le_refl _) (by decide) (fun _ => rfl) (by simp) (by intro i k hi; omega) (by intro h; omega) (by simp)
    · exact .junk _ _
  | func f => exact .fn _ _
  | global g => exact .junk _ _

theorem RS.put {w : World} {S : Nat → Prop} {ρ : Reg} {s : St} {a : Act} (h : RS w S ρ s a) {x : AV} {v : Value} (hv : Rd w S ρ s.H.length x v) (dst : Option Nat) :
    RS w S ρ ⟨putT s.T x dst, s.H⟩ (a.put dst v) := by
  cases dst with
  | none => exact h
  | some d =>
    refine ⟨by simp [putT, Act.put, h.size], ?_, h.mem, h.defers⟩
    intro i y u hy hu
    simp only [putT, Act.put] at hy hu
    by_cases hd : d = i
    · subst hd
      by_cases hl : d < s.T.length
      · simp [List.getElem?_set, hl] at hy
        simp [Array.getElem?_setIfInBounds, h.size, hl] at hu
        subst hy; subst hu
        exact hv
      · rw [List.getElem?_eq_none (by simp; omega)] at hy
        cases hy
    · rw [List.getElem?_set_ne hd] at hy
      rw [Array.getElem?_setIfInBounds_ne hd] at hu
      exact h.tmp i y u hy hu

/-- The memory has gone on; the temporaries are as they were. -/
theorem RS.goes {w w' : World} {S S' : Nat → Prop} {ρ ρ' : Reg} {s : St} {a : Act} {H' : List Ent} (h : RS w S ρ s a) (hg : Goes w S ρ s.H w' S' ρ' H' s.H.length) (hm : RH w' S' ρ' H') :
    RS w' S' ρ' ⟨s.T, H'⟩ a :=
  ⟨h.size, fun i x v hx hv => hg.rd h.mem (Nat.le_refl _) hg.len (h.tmp i x v hx hv), hm, h.defers⟩

end Go.Rf
end
/-
  THE SYMBOLIC EXECUTOR, part 4: how the memory may go on.
-/
section
set_option linter.unusedVariables false
set_option linter.unusedSimpArgs false
namespace Go.Rf

theorem setH_length : ∀ (H : List Ent) (p : Nat) (e : Ent), p ≤ H.length → (setH H p e).length = max H.length (p + 1)
  | [], 0, e, _ => by simp [setH]
  | [], p + 1, e, h => by simp at h
  | x :: H, 0, e, _ => by simp [setH]
  | x :: H, p + 1, e, h => by
    simp only [setH, List.length_cons]
    rw [setH_length H p e (by simp at h; omega)]
    omega
theorem setH_get : ∀ (H : List Ent) (p : Nat) (e : Ent) (q : Nat), p ≤ H.length → (setH H p e)[q]? = if q = p then some e else H[q]?
  | [], 0, e, q, _ => by cases q <;> simp [setH]
  | [], p + 1, e, q, h => by simp at h
  | x :: H, 0, e, q, _ => by cases q <;> simp [setH]
  | x :: H, p + 1, e, q, h => by
    cases q with
    | zero => simp [setH]
    | succ q =>
      simp only [setH, List.getElem?_cons_succ]
      rw [setH_get H p e q (by simp at h; omega)]
      by_cases hq : q = p <;> simp [hq]

theorem EntRd.live_heap {w : World} {S : Nat → Prop} {ρ : Reg} {n p : Nat} {e : Ent} (h : EntRd w S ρ n p e) (hl : live ρ p e) : ∃ cs ty, w.heap[(ρ p).blk]? = some (.cells cs ty (0, 0)) := by
  cases e with
  | none => exact hl.elim
  | var cells => obtain ⟨_, cs, ty, h1, _⟩ := h; exact ⟨cs, ty, h1⟩
  | arr cl ver sz cap es => obtain ⟨_, _, _, _, _, _, _, _, h9⟩ := h; obtain ⟨cs, ty, h1, _⟩ := h9 hl; exact ⟨cs, ty, h1⟩
theorem EntRd.live_lt {w : World} {S : Nat → Prop} {ρ : Reg} {n p : Nat} {e : Ent} (h : EntRd w S ρ n p e) (hl : live ρ p e) : (ρ p).blk < w.heap.size := by
  obtain ⟨cs, ty, h1⟩ := h.live_heap hl
  exact (Array.getElem?_eq_some_iff.1 h1).1
theorem RH.own_lt {w : World} {S : Nat → Prop} {ρ : Reg} {H : List Ent} (h : RH w S ρ H) {k : Nat} (ho : Own ρ H k) : k < w.heap.size := by
  obtain ⟨p, e, he, hl, rfl⟩ := ho
  exact (h.ent p e he).live_lt hl

theorem CellsRd.mono {w w' : World} {S S' : Nat → Prop} {ρ ρ' : Reg} {n m : Nat} {cells : List AV} {cs : Array Value} (h : CellsRd w S ρ n cells cs) (hS : Later S S' w w') (hm : n ≤ m) (hn : Newer ρ ρ' n) :
    CellsRd w' S' ρ' m cells cs := ⟨h.1, h.2.1, fun i a v ha hv => (h.2.2 i a v ha hv).mono hS hm hn⟩

theorem live_congr {ρ ρ' : Reg} {p : Nat} {e : Ent} (h : ρ' p = ρ p) : live ρ' p e ↔ live ρ p e := by cases e <;> simp [live, h]

theorem EntRd.mono {w w' : World} {S S' : Nat → Prop} {ρ ρ' : Reg} {n m p : Nat} {e : Ent} (h : EntRd w S ρ n p e) (hρ : ρ' p = ρ p) (hb : live ρ p e → w'.heap[(ρ p).blk]? = w.heap[(ρ p).blk]?)
    (hS : Later S S' w w') (hm : n ≤ m) (hn : Newer ρ ρ' n) : EntRd w' S' ρ' m p e := by
  cases e with
  | none => exact (by simpa only [EntRd, hρ] using h)
  | var cells =>
    obtain ⟨h0, cs, ty, h1, h2⟩ := h
    exact ⟨by rw [hρ]; exact h0, cs, ty, by rw [hρ, hb trivial]; exact h1, h2.mono hS hm hn⟩
  | arr cl ver sz cap es =>
    obtain ⟨h1, h2, h3, h4, h5, h6, h7, h8, h9⟩ := h
    refine ⟨by rw [hρ]; exact h1, h2, by rw [hρ]; exact h3, h4, by rw [hρ]; exact h5, by rw [hρ]; exact h6, by rw [hρ]; exact h7, h8, fun hc => ?_⟩
    rw [hρ] at hc
    obtain ⟨cs, ty, k1, k2, k3, k4⟩ := h9 hc
    refine ⟨cs, ty, by rw [hρ, hb hc]; exact k1, by rw [hρ]; exact k2, k3, fun i k e a v he ha hv => ?_⟩
    have := k4 i k e a v he ha hv
    cases cl with
    | true => exact this.mono hS (Nat.le_refl _) (fun p hp => absurd hp (by simp))
    | false => exact this.mono hS hm hn

/-- One place of the abstract memory takes a new content; blocks that it doesn't own stay. -/
theorem RH.change {w w' : World} {S S' : Nat → Prop} {ρ ρ' : Reg} {H : List Ent} {p : Nat} {e' : Ent} (h : RH w S ρ H) (hp : p ≤ H.length)
    (hρ : ∀ q, q ≠ p → ρ' q = ρ q) (hN : p < H.length → ρ' p = ρ p ∨ (ρ p).ver < (ρ' p).ver)
    (hos : w'.os = w.os) (htape : w'.tape = w.tape) (hout : w'.output = w.output) (hsize : w.heap.size ≤ w'.heap.size)
    (hkeep : ∀ k, k < w.heap.size → (∀ e, H[p]? = some e → live ρ p e → k ≠ (ρ p).blk) → w'.heap[k]? = w.heap[k]?)
    (hblk : live ρ' p e' → ((ρ' p).blk = (ρ p).blk ∧ ∃ e, H[p]? = some e ∧ live ρ p e) ∨ (w.heap.size ≤ (ρ' p).blk))
    (hup : ∀ k, S k → S' k) (hdown : ∀ k, S' k → S k ∨ (w.heap.size ≤ k ∧ k < w'.heap.size ∧ (live ρ' p e' → k ≠ (ρ' p).blk)))
    (he : EntRd w' S' ρ' (setH H p e').length p e') :
    RH w' S' ρ' (setH H p e') ∧ Goes w S ρ H w' S' ρ' (setH H p e') H.length := by
  have hlen := setH_length H p e' hp
  have hget := fun q => setH_get H p e' q hp
  have hnew : Newer ρ ρ' H.length := fun q hq => by
    by_cases hqp : q = p
    · subst hqp; exact hN hq
    · exact .inl (hρ q hqp)
  have hk : ∀ k, k < w.heap.size → ¬ Own ρ H k → w'.heap[k]? = w.heap[k]? := fun k hk hn =>
    hkeep k hk (fun e he hl => fun heq => hn ⟨p, e, he, hl, heq.symm⟩)
  have hS : Later S S' w w' := fun k hkS => ⟨hup k hkS, hk k (h.stab k hkS).1 (h.stab k hkS).2⟩
  have hblock : ∀ q e, q ≠ p → H[q]? = some e → live ρ q e → w'.heap[(ρ q).blk]? = w.heap[(ρ q).blk]? := fun q e hqp hq hl =>
    hkeep _ ((h.ent q e hq).live_lt hl) (fun f hf hlf => h.apart q p e f hq hf hl hlf hqp)
  have hent : ∀ q e, (setH H p e')[q]? = some e → EntRd w' S' ρ' (setH H p e').length q e := by
    intro q e hq
    rw [hget] at hq
    by_cases hqp : q = p
    · subst hqp
      simp at hq
      subst hq
      exact he
    · rw [if_neg hqp] at hq
      exact (h.ent q e hq).mono (hρ q hqp) (fun hl => hblock q e hqp hq hl) hS (by rw [hlen]; omega) hnew
  have hdist : ∀ q e, q ≠ p → H[q]? = some e → live ρ q e → live ρ' p e' → (ρ q).blk ≠ (ρ' p).blk := by
    intro q e hqp hq hl hl'
    rcases hblk hl' with ⟨h1, f, hf, hlf⟩ | h1
    · rw [h1]; exact h.apart q p e f hq hf hl hlf hqp
    · have := (h.ent q e hq).live_lt hl
      omega
  refine ⟨⟨hent, ?_, ?_⟩, ⟨hos, htape, hout, hsize, hk, ?_, hup, ?_, by rw [hlen]; omega, hnew⟩⟩
  · intro q r e f hq hr hlq hlr hne
    rw [hget] at hq hr
    by_cases hqp : q = p
    · subst hqp
      simp at hq
      subst hq
      rw [if_neg (Ne.symm hne)] at hr
      have hlr' := (live_congr (hρ r (Ne.symm hne))).1 hlr
      rw [hρ r (Ne.symm hne)]
      exact (hdist r f (Ne.symm hne) hr hlr' hlq).symm
    · rw [if_neg hqp] at hq
      have hlq' := (live_congr (hρ q hqp)).1 hlq
      rw [hρ q hqp]
      by_cases hrp : r = p
      · subst hrp
        simp at hr
        subst hr
        exact hdist q e hqp hq hlq' hlr
      · rw [if_neg hrp] at hr
        have hlr' := (live_congr (hρ r hrp)).1 hlr
        rw [hρ r hrp]
        exact h.apart q r e f hq hr hlq' hlr' hne
  · intro k hk'
    rcases hdown k hk' with h1 | ⟨h1, h2, h3⟩
    · refine ⟨Nat.lt_of_lt_of_le (h.stab k h1).1 hsize, ?_⟩
      rintro ⟨q, e, hq, hl, rfl⟩
      rw [hget] at hq
      by_cases hqp : q = p
      · subst hqp
        simp at hq
        subst hq
        rcases hblk hl with ⟨h4, f, hf, hlf⟩ | h4
        · rw [h4] at h1
          exact (h.stab _ h1).2 ⟨q, f, hf, hlf, rfl⟩
        · have := (h.stab _ h1).1
          omega
      · rw [if_neg hqp] at hq
        have hl' := (live_congr (hρ q hqp)).1 hl
        rw [hρ q hqp] at h1
        exact (h.stab _ h1).2 ⟨q, e, hq, hl', rfl⟩
    · refine ⟨h2, ?_⟩
      rintro ⟨q, e, hq, hl, rfl⟩
      rw [hget] at hq
      by_cases hqp : q = p
      · subst hqp
        simp at hq
        subst hq
        exact h3 hl rfl
      · rw [if_neg hqp] at hq
        have hl' := (live_congr (hρ q hqp)).1 hl
        have := (h.ent q e hq).live_lt hl'
        rw [hρ q hqp] at h1
        omega
  · rintro k ⟨q, e, hq, hl, rfl⟩
    rw [hget] at hq
    by_cases hqp : q = p
    · subst hqp
      simp at hq
      subst hq
      rcases hblk hl with ⟨h4, f, hf, hlf⟩ | h4
      · exact .inl ⟨q, f, hf, hlf, h4.symm⟩
      · exact .inr h4
    · rw [if_neg hqp] at hq
      exact .inl ⟨q, e, hq, (live_congr (hρ q hqp)).1 hl, by rw [hρ q hqp]⟩
  · intro k hk'
    rcases hdown k hk' with h1 | ⟨h1, _⟩
    · exact .inl h1
    · exact .inr (.inr h1)

/-- The abstract memory stays; there may be new blocks. -/
theorem RH.same {w w' : World} {S S' : Nat → Prop} {ρ : Reg} {H : List Ent} (h : RH w S ρ H)
    (hos : w'.os = w.os) (htape : w'.tape = w.tape) (hout : w'.output = w.output) (hsize : w.heap.size ≤ w'.heap.size)
    (hkeep : ∀ k, k < w.heap.size → w'.heap[k]? = w.heap[k]?) (hup : ∀ k, S k → S' k) (hdown : ∀ k, S' k → S k ∨ (w.heap.size ≤ k ∧ k < w'.heap.size)) :
    RH w' S' ρ H ∧ Goes w S ρ H w' S' ρ H H.length := by
  have hS : Later S S' w w' := fun k hk => ⟨hup k hk, hkeep k (h.stab k hk).1⟩
  refine ⟨⟨fun q e hq => (h.ent q e hq).mono rfl (fun hl => hkeep _ ((h.ent q e hq).live_lt hl)) hS (Nat.le_refl _) (Newer.refl _ _), h.apart, ?_⟩,
    ⟨hos, htape, hout, hsize, fun k hk _ => hkeep k hk, fun k hk => .inl hk, hup, ?_, Nat.le_refl _, Newer.refl _ _⟩⟩
  · intro k hk
    rcases hdown k hk with h1 | ⟨h1, h2⟩
    · exact ⟨Nat.lt_of_lt_of_le (h.stab k h1).1 hsize, (h.stab k h1).2⟩
    · refine ⟨h2, fun ho => ?_⟩
      have := h.own_lt ho
      omega
  · intro k hk
    rcases hdown k hk with h1 | ⟨h1, _⟩
    · exact .inl h1
    · exact .inr (.inr h1)

end Go.Rf
end
/-
  THE SYMBOLIC EXECUTOR, part 5: rows of cells, and what the type table promises.
-/
section
set_option linter.unusedVariables false
set_option linter.unusedSimpArgs false
namespace Go.Rf

/-! ### Rows -/
/-- A list of values tells rows of cells, one behind the other. -/
structure RowsRd (w : World) (S : Nat → Prop) (ρ : Reg) (n sz : Nat) (es : List (List AV)) (vs : List Value) : Prop where
  len : vs.length = es.length * sz
  one : ∀ v ∈ vs, v.oneCell' = true
  row : ∀ e ∈ es, e.length = sz
  rd : ∀ (i k : Nat) (e : List AV) (a : AV) (v : Value), es[i]? = some e → e[k]? = some a → vs[i * sz + k]? = some v → Rd w S ρ n a v

theorem idx_lt {i n k sz : Nat} (hi : i < n) (hk : k < sz) : i * sz + k < n * sz := by
  have h1 : (i + 1) * sz ≤ n * sz := Nat.mul_le_mul_right _ hi
  rw [Nat.add_mul] at h1
  omega

theorem RowsRd.nil (w : World) (S : Nat → Prop) (ρ : Reg) (n sz : Nat) : RowsRd w S ρ n sz [] [] := ⟨by simp, by simp, by simp, by simp⟩

theorem RowsRd.append {w : World} {S : Nat → Prop} {ρ : Reg} {n sz : Nat} {es fs : List (List AV)} {vs us : List Value} (h : RowsRd w S ρ n sz es vs) (k : RowsRd w S ρ n sz fs us) : RowsRd w S ρ n sz (es ++ fs) (vs ++ us) where
  len := by simp [h.len, k.len, Nat.add_mul]
  one := by intro v hv; exact (List.mem_append.1 hv).elim (h.one v) (k.one v)
  row := by intro v hv; exact (List.mem_append.1 hv).elim (h.row v) (k.row v)
  rd := by
    intro i j e a v he ha hv
    rcases Nat.lt_or_ge i es.length with hi | hi
    · rw [List.getElem?_append_left hi] at he
      have hj : j < sz := by
        have := (List.getElem?_eq_some_iff.1 ha).1
        rw [h.row e (List.mem_of_getElem? he)] at this
        exact this
      rw [List.getElem?_append_left (by rw [h.len]; exact idx_lt hi hj)] at hv
      exact h.rd i j e a v he ha hv
    · rw [List.getElem?_append_right hi] at he
      have h1 : es.length * sz ≤ i * sz := Nat.mul_le_mul_right _ hi
      rw [List.getElem?_append_right (by rw [h.len]; omega)] at hv
      refine k.rd (i - es.length) j e a v he ha ?_
      rw [← hv]
      congr 1
      rw [h.len, Nat.sub_mul]
      omega

theorem RowsRd.take {w : World} {S : Nat → Prop} {ρ : Reg} {n sz : Nat} {es : List (List AV)} {vs : List Value} (h : RowsRd w S ρ n sz es vs) (m : Nat) : RowsRd w S ρ n sz (es.take m) (vs.take (m * sz)) where
  len := by
    rw [List.length_take, List.length_take, h.len]
    rcases Nat.le_total m es.length with hm | hm
    · have := Nat.mul_le_mul_right sz hm
      rw [Nat.min_eq_left hm, Nat.min_eq_left this]
    · have := Nat.mul_le_mul_right sz hm
      rw [Nat.min_eq_right hm, Nat.min_eq_right this]
  one := fun v hv => h.one v (List.mem_of_mem_take hv)
  row := fun v hv => h.row v (List.mem_of_mem_take hv)
  rd := by
    intro i j e a v he ha hv
    rw [List.getElem?_take] at he hv
    split at he
    · split at hv
      · exact h.rd i j e a v he ha hv
      · cases hv
    · cases he

theorem RowsRd.drop {w : World} {S : Nat → Prop} {ρ : Reg} {n sz : Nat} {es : List (List AV)} {vs : List Value} (h : RowsRd w S ρ n sz es vs) (m : Nat) : RowsRd w S ρ n sz (es.drop m) (vs.drop (m * sz)) where
  len := by simp [h.len, Nat.sub_mul]
  one := fun v hv => h.one v (List.mem_of_mem_drop hv)
  row := fun v hv => h.row v (List.mem_of_mem_drop hv)
  rd := by
    intro i j e a v he ha hv
    rw [List.getElem?_drop] at he hv
    exact h.rd (m + i) j e a v he ha (by rw [← hv, Nat.add_mul]; congr 1; omega)

theorem RowsRd.mono {w w' : World} {S S' : Nat → Prop} {ρ ρ' : Reg} {n m sz : Nat} {es : List (List AV)} {vs : List Value} (h : RowsRd w S ρ n sz es vs) (hS : Later S S' w w') (hm : n ≤ m) (hn : Newer ρ ρ' n) : RowsRd w' S' ρ' m sz es vs :=
  ⟨h.len, h.one, h.row, fun i k e a v he ha hv => (h.rd i k e a v he ha hv).mono hS hm hn⟩

theorem RowsRd.up {w : World} {S : Nat → Prop} {ρ : Reg} {n sz : Nat} {es : List (List AV)} {vs : List Value} (h : RowsRd w S ρ 0 sz es vs) : RowsRd w S ρ n sz es vs :=
  h.mono (Later.refl _ _) (Nat.zero_le _) (Newer.refl _ _)

/-- The rows of one element. -/
theorem RowsRd.one_row {w : World} {S : Nat → Prop} {ρ : Reg} {n sz : Nat} {cells : List AV} {vs : List Value} (hl : vs.length = cells.length) (hs : cells.length = sz) (h1 : ∀ v ∈ vs, v.oneCell' = true)
    (h : ∀ (i : Nat) (a : AV) (v : Value), cells[i]? = some a → vs[i]? = some v → Rd w S ρ n a v) : RowsRd w S ρ n sz [cells] vs where
  len := by simp [hl, hs]
  one := h1
  row := by simp [hs]
  rd := by
    intro i k e a v he ha hv
    cases i with
    | zero => simp at he; subst he; exact h k a v ha (by simpa using hv)
    | succ i => simp at he

theorem RowsRd.replicate {w : World} {S : Nat → Prop} {ρ : Reg} {n sz : Nat} {cells : List AV} {z : List Value} (h : RowsRd w S ρ n sz [cells] z) : ∀ m, RowsRd w S ρ n sz (List.replicate m cells) (List.replicate m z).flatten
  | 0 => by simpa using RowsRd.nil w S ρ n sz
  | m + 1 => by
    have := h.append (RowsRd.replicate h m)
    simpa [List.replicate_succ] using this

/-- One row of the rows is another. -/
theorem list_set_eq {α : Type} (l : List α) (i : Nat) (x : α) (h : i < l.length) : l.set i x = l.take i ++ [x] ++ l.drop (i + 1) := by
  apply List.ext_getElem?
  intro j
  simp only [List.getElem?_set, List.getElem?_append, List.length_take, List.length_append, List.length_singleton, List.getElem?_take, List.getElem?_drop]
  by_cases hj : j < i
  · simp [show i ≠ j by omega, show j < min i l.length by omega, hj, show j < min i l.length + 1 by omega]
  · by_cases hj2 : i = j
    · subst hj2
      have : min i l.length = i := by omega
      simp [h, this]
    · have : min i l.length = i := by omega
      simp [hj2, this, hj, show ¬ j < i + 1 by omega]
      congr 1
      omega

theorem RowsRd.set {w : World} {S : Nat → Prop} {ρ : Reg} {n sz : Nat} {es : List (List AV)} {vs : List Value} (h : RowsRd w S ρ n sz es vs) {i : Nat} (hi : i < es.length) {cells : List AV} {us : List Value} (hu : RowsRd w S ρ n sz [cells] us) :
    RowsRd w S ρ n sz (es.set i cells) (vs.take (i * sz) ++ us ++ vs.drop ((i + 1) * sz)) := by
  rw [list_set_eq es i cells hi]
  exact ((h.take i).append hu).append (h.drop (i + 1))

theorem RowsRd.row_at {w : World} {S : Nat → Prop} {ρ : Reg} {n sz : Nat} {es : List (List AV)} {vs : List Value} (h : RowsRd w S ρ n sz es vs) {i : Nat} {e : List AV} (he : es[i]? = some e) :
    RowsRd w S ρ n sz [e] ((vs.drop (i * sz)).take sz) := by
  have := (h.drop i).take 1
  have hi := (List.getElem?_eq_some_iff.1 he).1
  have h2 : (es.drop i).take 1 = [e] := by
    rw [List.take_one, List.head?_drop, he]
    rfl
  rw [h2, Nat.one_mul] at this
  exact this

/-- What the abstract memory tells of an array: its cells, as rows. -/
theorem EntRd.rows {w : World} {S : Nat → Prop} {ρ : Reg} {n p : Nat} {cl : Bool} {ver sz : Nat} {cap : Option Nat} {es : List (List AV)} (h : EntRd w S ρ n p (.arr cl ver sz cap es)) (hc : 0 < (ρ p).cap) :
    ∃ cs ty, w.heap[(ρ p).blk]? = some (.cells cs ty (0, 0)) ∧ cs.size = (ρ p).cap * sz ∧ (∀ v ∈ cs, v.oneCell' = true) ∧ RowsRd w S ρ (if cl then 0 else n) sz es (cs.toList.take (es.length * sz)) := by
  obtain ⟨h1, h2, h3, h4, h5, h6, h7, h8, h9⟩ := h
  obtain ⟨cs, ty, k1, k2, k3, k4⟩ := h9 hc
  refine ⟨cs, ty, k1, k2, k3, ⟨?_, fun v hv => k3 v (by simpa using List.mem_of_mem_take hv), h8, ?_⟩⟩
  · have := Nat.mul_le_mul_right sz h5
    have h10 : cs.toList.length = (ρ p).cap * sz := k2
    rw [List.length_take, h10]
    omega
  · intro i k e a v he ha hv
    rw [List.getElem?_take] at hv
    split at hv
    · exact k4 i k e a v he ha (by simpa using hv)
    · cases hv
theorem EntRd.of_rows {w : World} {S : Nat → Prop} {ρ : Reg} {n p : Nat} {cl : Bool} {ver sz : Nat} {cap : Option Nat} {es : List (List AV)} (hver : (ρ p).ver = ver) (hv0 : 0 < ver) (hsz : (ρ p).sz = sz) (h0 : 0 < sz)
    (hl : es.length ≤ (ρ p).cap) (hm : (ρ p).cap ≤ maxLen) (hcap : ∀ c, cap = some c → c = (ρ p).cap) (hrow : ∀ e ∈ es, e.length = sz)
    (h : 0 < (ρ p).cap → ∃ cs ty, w.heap[(ρ p).blk]? = some (.cells cs ty (0, 0)) ∧ cs.size = (ρ p).cap * sz ∧ (∀ v ∈ cs, v.oneCell' = true) ∧ RowsRd w S ρ (if cl then 0 else n) sz es (cs.toList.take (es.length * sz))) :
    EntRd w S ρ n p (.arr cl ver sz cap es) := by
  refine ⟨hver, hv0, hsz, h0, hl, hm, hcap, hrow, fun hc => ?_⟩
  obtain ⟨cs, ty, k1, k2, k3, k4⟩ := h hc
  refine ⟨cs, ty, k1, k2, k3, fun i k e a v he ha hv => k4.rd i k e a v he ha ?_⟩
  have hi := (List.getElem?_eq_some_iff.1 he).1
  have hk : k < sz := by
    have := (List.getElem?_eq_some_iff.1 ha).1
    rwa [hrow e (List.mem_of_getElem? he)] at this
  rw [List.getElem?_take, if_pos (idx_lt hi hk)]
  simpa using hv

theorem Addr.add_add (a : Addr) (x y : Nat) : (a.add x).add y = a.add (x + y) := by
  unfold Addr.add
  by_cases hx : x = 0
  · subst hx; simp
  · by_cases hy : y = 0
    · subst hy; simp
    · rw [if_neg hx, if_neg hy, if_neg (by omega)]
      simp [Nat.add_assoc]
theorem Addr.add_block (a : Addr) (x : Nat) : (a.add x).block = a.block := by unfold Addr.add; split <;> rfl

/-- A row of a stable block, as a slice. -/
theorem Rd.sl_of_rows {w : World} {S : Nat → Prop} {ρ : Reg} {n sz : Nat} {es : List (List AV)} {vs : List Value} (fr : Bool) (h : RowsRd w S ρ 0 sz es vs) (A : Option Addr) (cap : Nat) (hc : es.length ≤ cap) (hm : cap ≤ maxLen) (hf : fr = true → cap = es.length)
    (hA : 0 < es.length → ∃ a, A = some a ∧ S a.block ∧ ∀ j v, vs[j]? = some v → w.cell? (a.add j) = some v) : Rd w S ρ n (.sl sz fr es) (.slice A es.length cap) := by
  refine .sl _ sz fr es A es.length cap (fun i k => vs.getD (i * sz + k) default) rfl hc hm hf h.row ?_ ?_ ?_
  · intro i k hi hk
    obtain ⟨a, h1, h2, h3⟩ := hA (by omega)
    have hlt : i * sz + k < vs.length := by rw [h.len]; exact idx_lt hi hk
    have hg : vs[i * sz + k]? = some vs[i * sz + k] := List.getElem?_eq_getElem hlt
    refine ⟨a, h1, h2, ?_, ?_⟩
    · rw [h3 _ _ hg]; simp [List.getD_eq_getElem?_getD, hg]
    · rw [List.getD_eq_getElem?_getD, hg]; exact h.one _ (List.getElem_mem hlt)
  · intro h0
    obtain ⟨a, h1, _⟩ := hA h0
    simp [h1]
  · intro i k e a he ha
    have hi := (List.getElem?_eq_some_iff.1 he).1
    have hk : k < sz := by
      have := (List.getElem?_eq_some_iff.1 ha).1
      rwa [h.row e (List.mem_of_getElem? he)] at this
    have hlt : i * sz + k < vs.length := by rw [h.len]; exact idx_lt hi hk
    have hg : vs[i * sz + k]? = some vs[i * sz + k] := List.getElem?_eq_getElem hlt
    rw [List.getD_eq_getElem?_getD, hg]
    exact h.rd i k e a _ he ha hg

/-- The rows of a slice that is told by value. -/
theorem rows_of_sl {w : World} {S : Nat → Prop} {ρ : Reg} {sz len : Nat} {es : List (List AV)} {A : Option Addr} {cell : Nat → Nat → Value} (hl : es.length = len) (hsz : ∀ e ∈ es, e.length = sz)
    (hcell : ∀ i k, i < len → k < sz → ∃ a, A = some a ∧ S a.block ∧ w.cell? (a.add (i * sz + k)) = some (cell i k) ∧ (cell i k).oneCell' = true)
    (h : ∀ (i k : Nat) (e : List AV) (a : AV), es[i]? = some e → e[k]? = some a → Rd w S ρ 0 a (cell i k)) :
    ∃ vs, RowsRd w S ρ 0 sz es vs ∧ (∀ j v, vs[j]? = some v → ∃ a, A = some a ∧ S a.block ∧ w.cell? (a.add j) = some v) := by
  have hdm : ∀ j, j < len * sz → j / sz < len ∧ j % sz < sz ∧ j / sz * sz + j % sz = j := by
    intro j hj
    have hs : 0 < sz := by rcases Nat.eq_zero_or_pos sz with h0 | h0; subst h0; simp at hj; exact h0
    exact ⟨(Nat.div_lt_iff_lt_mul hs).2 hj, Nat.mod_lt _ hs, by rw [Nat.mul_comm]; exact Nat.div_add_mod j sz⟩
  have key : ∀ j v, (((List.range (len * sz)).map fun j => cell (j / sz) (j % sz))[j]? = some v) → j < len * sz ∧ v = cell (j / sz) (j % sz) := by
    intro j v hv
    rw [List.getElem?_map] at hv
    rcases Nat.lt_or_ge j (len * sz) with hj | hj
    · rw [List.getElem?_range hj] at hv
      simp at hv
      exact ⟨hj, hv.symm⟩
    · rw [List.getElem?_eq_none (by simpa using hj)] at hv
      simp at hv
  refine ⟨(List.range (len * sz)).map fun j => cell (j / sz) (j % sz), ⟨by simp [hl], ?_, hsz, ?_⟩, ?_⟩
  · intro v hv
    obtain ⟨j, hj⟩ := List.getElem?_of_mem hv
    obtain ⟨h1, rfl⟩ := key j v hj
    obtain ⟨h2, h3, h4⟩ := hdm j h1
    obtain ⟨a, _, _, _, h5⟩ := hcell _ _ h2 h3
    exact h5
  · intro i k e a v he ha hv
    have hk : k < sz := by
      have := (List.getElem?_eq_some_iff.1 ha).1
      rwa [hsz e (List.mem_of_getElem? he)] at this
    obtain ⟨h1, rfl⟩ := key _ _ hv
    have hs : 0 < sz := by omega
    rw [Nat.add_comm, Nat.add_mul_div_right _ _ hs, Nat.div_eq_of_lt hk, Nat.zero_add, Nat.add_mul_mod_self_right, Nat.mod_eq_of_lt hk]
    exact h i k e a he ha
  · intro j v hv
    obtain ⟨h1, rfl⟩ := key j v hv
    obtain ⟨h2, h3, h4⟩ := hdm j h1
    obtain ⟨a, e1, e2, e3, _⟩ := hcell _ _ h2 h3
    exact ⟨a, e1, e2, by rw [h4] at e3; exact e3⟩

/-! ### Cells of a value -/
theorem Rd.cells {w : World} {S : Nat → Prop} {ρ : Reg} {n : Nat} {a : AV} {v : Value} (h : Rd w S ρ n a v) {cs : List AV} (hc : cellsOf a = some cs) : CellsRd w S ρ n cs v.cells := by
  have one : ∀ (a : AV) (v : Value), v.oneCell' = true → v.cells = #[v] → Rd w S ρ n a v → CellsRd w S ρ n [a] v.cells := by
    intro a v h1 h2 h
    refine ⟨by simp [h2], ?_, ?_⟩
    · intro u hu
      rw [h2] at hu
      simp at hu
      subst hu
      exact h1
    · intro i x u hx hu
      rw [h2] at hu
      cases i with
      | zero => simp at hx hu; subst hx; subst hu; exact h
      | succ i => simp at hx
  cases h with
  | junk => cases hc
  | tup => cases hc
  | agg _ cs' vs hl h1 h =>
    cases hc
    refine ⟨by simp [Value.cells, hl], ?_, ?_⟩
    · intro u hu
      exact h1 u (by simpa [Value.cells] using hu)
    · intro i x u hx hu
      exact h i x u hx (by simpa [Value.cells] using hu)
  | int _ k x => cases hc; exact one _ _ rfl rfl (.int _ _ _)
  | bool _ b => cases hc; exact one _ _ rfl rfl (.bool _ _)
  | str _ s => cases hc; exact one _ _ rfl rfl (.str _ _)
  | fn _ f => cases hc; exact one _ _ rfl rfl (.fn _ _)
  | sl _ sz fr es A len cap cell hl hc' hx hf hsz hcell hA h => cases hc; exact one _ _ rfl rfl (.sl _ sz fr es A len cap cell hl hc' hx hf hsz hcell hA h)
  | own _ p ver len A cap hp hv hc' hA h => cases hc; exact one _ _ rfl rfl (.own _ _ _ _ _ _ hp hv hc' hA h)
  | osub _ p ver off len A cap hp hv hc' hA h => cases hc; exact one _ _ rfl rfl (.osub _ _ _ _ _ _ _ hp hv hc' hA h)
  | ptr _ p off A hp hv h => cases hc; exact one _ _ rfl rfl (.ptr _ _ _ _ hp hv h)
  | eptr _ p ver i k A hp hv h => cases hc; exact one _ _ rfl rfl (.eptr _ _ _ _ _ _ hp hv h)
  | rptr _ sz es i k a e cell he hl hcell h => cases hc; exact one _ _ rfl rfl (.rptr _ sz es i k a e cell he hl hcell h)

theorem CellsRd.set {w : World} {S : Nat → Prop} {ρ : Reg} {n : Nat} {cells : List AV} {cs : Array Value} (h : CellsRd w S ρ n cells cs) (i : Nat) {a : AV} {v : Value} (hv : Rd w S ρ n a v) (h1 : v.oneCell' = true) :
    CellsRd w S ρ n (cells.set i a) (cs.setIfInBounds i v) := by
  refine ⟨by simpa using h.1, ?_, ?_⟩
  · intro u hu
    rcases Array.mem_or_eq_of_mem_setIfInBounds hu with h2 | h2
    · exact h.2.1 u h2
    · subst h2; exact h1
  · intro j x u hx hu
    by_cases hij : i = j
    · subst hij
      by_cases hl : i < cells.length
      · simp [List.getElem?_set, hl] at hx
        simp [Array.getElem?_setIfInBounds, h.1, hl] at hu
        subst hx; subst hu
        exact hv
      · rw [List.getElem?_eq_none (by simp; omega)] at hx
        cases hx
    · rw [List.getElem?_set_ne hij] at hx
      rw [Array.getElem?_setIfInBounds_ne hij] at hu
      exact h.2.2 j x u hx hu

theorem CellsRd.setCells {w : World} {S : Nat → Prop} {ρ : Reg} {n : Nat} : ∀ (as : List AV) (vs : List Value) (off : Nat) (cells : List AV) (cs : Array Value), CellsRd w S ρ n cells cs → vs.length = as.length → (∀ v ∈ vs, v.oneCell' = true) →
    (∀ (i : Nat) (a : AV) (v : Value), as[i]? = some a → vs[i]? = some v → Rd w S ρ n a v) →
    ∀ k o, off = o + k → CellsRd w S ρ n (setCells cells off as) ((vs.zipIdx k).foldl (fun cs (c, j) => cs.setIfInBounds (o + j) c) cs)
  | [], [], off, cells, cs, h, _, _, _, k, o, _ => h
  | [], _ :: _, _, _, _, _, hl, _, _, _, _, _ => by simp at hl
  | _ :: _, [], _, _, _, _, hl, _, _, _, _, _ => by simp at hl
  | a :: as, v :: vs, off, cells, cs, h, hl, h1, hr, k, o, he => by
    subst he
    have ih := CellsRd.setCells as vs (o + k + 1) (cells.set (o + k) a) (cs.setIfInBounds (o + k) v) (h.set (o + k) (hr 0 a v rfl rfl) (h1 v (by simp))) (by simpa using hl) (fun u hu => h1 u (by simp [hu]))
      (fun i x u hx hu => hr (i + 1) x u (by simpa using hx) (by simpa using hu)) (k + 1) o (by omega)
    simpa [Rf.setCells, List.zipIdx_cons] using ih

theorem setCells_length : ∀ (as : List AV) (off : Nat) (cells : List AV), (setCells cells off as).length = cells.length
  | [], _, _ => rfl
  | a :: as, off, cells => by simp [setCells, setCells_length as]

/-! ### The type table -/
def zMatch : AV → Value → Bool
  | .int k n, .int k' n' => decide (k = k') && decide (n = n')
  | .bool b, .bool c => b == c
  | .str s, .string t => s.data.isEmpty && t.data.isEmpty
  | .sl _ _ [], .slice none 0 0 => true
  | _, _ => false
def zAll : List AV → List Value → Bool
  | [], [] => true
  | a :: as, v :: vs => zMatch a v && zAll as vs
  | _, _ => false
def isAggD : TypeDesc → Bool
  | .struct _ => true
  | .array _ _ => true
  | _ => false
def kOK : TK → TypeDesc → Bool
  | .int k, .int k' => decide (k = k')
  | .bool, .bool => true
  | .str, .string => true
  | .slice e, .slice e' => e == e'
  | .struct, .struct _ => true
  | .other, d => !isAggD d
  | _, _ => false
def fOne (P : Program) (x : Nat × Nat × Bool) (f : Field) : Bool :=
  match P.info? f.type, P.underlying f.type with
  | some i, some d => f.offset == x.1 && i.size == x.2.1 && decide (0 < x.2.1) && (isAggD d == x.2.2) && (x.2.2 || x.2.1 == 1)
  | _, _ => false
def fOK (P : Program) : List (Nat × Nat × Bool) → List Field → Bool
  | [], [] => true
  | x :: fs, f :: gs => fOne P x f && fOK P fs gs
  | _, _ => false
def qOne (z : AV) (d : TypeDesc) : Bool :=
  match z, d with
  | .int _ _, .int _ => true
  | .str _, .string => true
  | .bool _, .bool => true
  | _, _ => false
def qOK (P : Program) : Nat → List AV → List Field → Bool
  | _, [], [] => true
  | j, z :: zs, f :: gs => (match P.underlying f.type with | some d => qOne z d | none => false) && f.offset == j && f.name != "_" && qOK P (j + 1) zs gs
  | _, _, _ => false
def tiOK (P : Program) (t : TypeId) (i : TI) : Bool :=
  match P.info? t, P.underlying t with
  | some inf, some d => inf.size == i.size && inf.bytes == i.bytes && decide (0 < i.size) && decide (0 < i.bytes) && decide (i.bytes ≤ 1048576) && decide (i.size ≤ 1000) && kOK i.kind d &&
      (match inf.zero with | some z => zAll i.zero z.cells.toList && (z.oneCell' != isAggD d) | none => false) && (i.zero.length == i.size) && (isAggD d || i.size == 1) &&
      (match d with | .struct fs => fOK P i.fields fs.toList | _ => i.fields.isEmpty) &&
      (!i.eq || (match d with | .struct fs => qOK P 0 i.zero fs.toList && !P.stoodInHeld t && !P.eqGuardType P.depth t | _ => false))
  | _, _ => false

structure TF (P : Program) (t : TypeId) (i : TI) (inf : TypeInfo) (d : TypeDesc) (z : Value) : Prop where
  info : P.info? t = some inf
  und : P.underlying t = some d
  size : inf.size = i.size
  bytes : inf.bytes = i.bytes
  pos : 0 < i.size
  bpos : 0 < i.bytes
  bmax : i.bytes ≤ 1048576
  smax : i.size ≤ 1000
  kind : kOK i.kind d = true
  zero : inf.zero = some z
  zall : zAll i.zero z.cells.toList = true
  zagg : z.oneCell' = !isAggD d
  zlen : i.zero.length = i.size
  one : isAggD d = false → i.size = 1
  flds : ∀ x, x < i.fields.length → ∃ fs f, d = .struct fs ∧ fs[x]? = some f ∧ fOne P (i.fields.getD x (0, 0, false)) f = true
  fall : ∀ fs, d = .struct fs → fOK P i.fields fs.toList = true
  eq : i.eq = true → ∃ fs, d = .struct fs ∧ qOK P 0 i.zero fs.toList = true ∧ P.stoodInHeld t = false ∧ P.eqGuardType P.depth t = false

theorem fOK_get {P : Program} : ∀ {fs : List (Nat × Nat × Bool)} {gs : List Field}, fOK P fs gs = true → ∀ x, x < fs.length → ∃ f, gs[x]? = some f ∧ fOne P (fs.getD x (0, 0, false)) f = true
  | [], [], _, x, hx => by simp at hx
  | [], _ :: _, h, _, _ => by simp [fOK] at h
  | _ :: _, [], h, _, _ => by simp [fOK] at h
  | y :: fs, g :: gs, h, x, hx => by
    simp only [fOK, Bool.and_eq_true] at h
    cases x with
    | zero => exact ⟨g, rfl, by simpa using h.1⟩
    | succ x =>
      obtain ⟨f, h1, h2⟩ := fOK_get h.2 x (by simpa using hx)
      exact ⟨f, by simpa using h1, by simpa using h2⟩

theorem tiOK_facts {P : Program} {t : TypeId} {i : TI} (h : tiOK P t i = true) : ∃ inf d z, TF P t i inf d z := by
  unfold tiOK at h
  split at h
  · rename_i inf d hi hd
    cases hz : inf.zero with
    | none => simp [hz] at h
    | some z =>
      simp only [hz, Bool.and_eq_true, beq_iff_eq, decide_eq_true_eq] at h
      obtain ⟨⟨⟨⟨⟨⟨⟨⟨⟨⟨⟨h1, h2⟩, h3⟩, h4⟩, h4b⟩, h4c⟩, h5⟩, h6, h7⟩, h8⟩, h9⟩, h10⟩, h11⟩ := h
      refine ⟨inf, d, z, hi, hd, h1, h2, h3, h4, h4b, h4c, h5, hz, h6, ?_, h8, ?_, ?_, ?_, ?_⟩
      · revert h7; cases z.oneCell' <;> cases isAggD d <;> simp
      · intro hd'
        simpa [hd'] using h9
      · intro x hx
        cases d <;> first
          | (simp at h10; simp [h10] at hx; done)
          | (rename_i fs; obtain ⟨f, k1, k2⟩ := fOK_get h10 x hx; exact ⟨fs, f, rfl, by simpa using k1, k2⟩)
      · intro fs hfs
        subst hfs
        exact h10
      · intro he
        simp only [he, Bool.not_true, Bool.false_or] at h11
        cases d <;> first
          | (simp at h11; done)
          | (rename_i fs; simp only [Bool.and_eq_true, Bool.not_eq_true'] at h11; exact ⟨fs, rfl, h11.1.1, h11.1.2, h11.2⟩)
  · simp at h

theorem zMatch_rd {a : AV} {v : Value} (h : zMatch a v = true) (w : World) (S : Nat → Prop) (ρ : Reg) (n : Nat) : Rd w S ρ n a v ∧ v.oneCell' = true ∧ Rf.closed1 a = true := by
  unfold zMatch at h
  split at h
  · simp at h; obtain ⟨rfl, rfl⟩ := h; exact ⟨.int _ _ _, rfl, rfl⟩
  · simp at h; subst h; exact ⟨.bool _ _, rfl, rfl⟩
  · rename_i s t
    simp at h
    obtain ⟨h1, h2⟩ := h
    have : s = t := ByteArray.ext (by rw [h1, h2])
    subst this
    exact ⟨.str _ _, rfl, rfl⟩
  · exact ⟨.sl _ _ _ [] none 0 0 (fun _ _ => default) rfl (Nat.le_refl _) (by decide) (fun _ => rfl) (by simp) (by intro i k hi; omega) (by intro h; omega) (by simp), rfl, rfl⟩
  · cases h
theorem zAll_rd : ∀ {as : List AV} {vs : List Value}, zAll as vs = true → vs.length = as.length ∧ ∀ (w : World) (S : Nat → Prop) (ρ : Reg) (n i : Nat) (a : AV) (v : Value), as[i]? = some a → vs[i]? = some v → Rd w S ρ n a v ∧ v.oneCell' = true
  | [], [], _ => ⟨rfl, by simp⟩
  | [], _ :: _, h => by simp [zAll] at h
  | _ :: _, [], h => by simp [zAll] at h
  | a :: as, v :: vs, h => by
    simp only [zAll, Bool.and_eq_true] at h
    obtain ⟨h1, h2⟩ := zAll_rd h.2
    refine ⟨by simp [h1], fun w S ρ n i x u hx hu => ?_⟩
    cases i with
    | zero => simp at hx hu; subst hx; subst hu; exact ⟨(zMatch_rd h.1 w S ρ n).1, (zMatch_rd h.1 w S ρ n).2.1⟩
    | succ i => exact h2 w S ρ n i x u (by simpa using hx) (by simpa using hu)

/-- The cells of the zero. -/
theorem TF.zcells {P : Program} {t : TypeId} {i : TI} {inf : TypeInfo} {d : TypeDesc} {z : Value} (h : TF P t i inf d z) (w : World) (S : Nat → Prop) (ρ : Reg) (n : Nat) : CellsRd w S ρ n i.zero z.cells ∧ z.cells.size = i.size := by
  obtain ⟨h1, h2⟩ := zAll_rd h.zall
  have hs : z.cells.size = i.zero.length := by simpa using h1
  refine ⟨⟨hs, ?_, fun j a v ha hv => (h2 w S ρ n j a v ha (by simpa using hv)).1⟩, by rw [hs, h.zlen]⟩
  intro v hv
  obtain ⟨j, hj, rfl⟩ := Array.mem_iff_getElem.1 hv
  have hj2 : j < i.zero.length := by omega
  exact (h2 w S ρ n j _ _ (List.getElem?_eq_getElem hj2) (by simp [hj])).2

theorem CellsRd.nfs {w : World} {S : Nat → Prop} {ρ : Reg} {n : Nat} {cells : List AV} {cs : Array Value} (h : CellsRd w S ρ n cells cs) : CellsRd w S ρ n (nfs cells) cs := by
  refine ⟨by rw [nfs_length]; exact h.1, h.2.1, fun i a v ha hv => ?_⟩
  rw [nfs_get] at ha
  cases hc : cells[i]? with
  | none => simp [hc] at ha
  | some b => simp [hc] at ha; subst ha; exact (h.2.2 i b v hc hv).nf

theorem closedAll_get : ∀ {cs : List AV}, closedAll cs = true → ∀ (i : Nat) (a : AV), cs[i]? = some a → Rf.closed1 a = true
  | [], _, i, a, h => by simp at h
  | c :: cs, hc, i, a, h => by
    obtain ⟨h1, h2⟩ := andB_true hc
    cases i with
    | zero => simp at h; subst h; exact h1
    | succ i => exact closedAll_get h2 i a (by simpa using h)
theorem CellsRd.closed {w : World} {S : Nat → Prop} {ρ : Reg} {n : Nat} {cells : List AV} {cs : Array Value} (h : CellsRd w S ρ n cells cs) (hc : closedAll cells = true) : CellsRd w S ρ 0 cells cs :=
  ⟨h.1, h.2.1, fun i a v ha hv => (h.2.2 i a v ha hv).closed1 (closedAll_get hc i a ha)⟩
theorem CellsRd.rows {w : World} {S : Nat → Prop} {ρ : Reg} {n sz : Nat} {cells : List AV} {cs : Array Value} (h : CellsRd w S ρ n cells cs) (hs : cells.length = sz) : RowsRd w S ρ n sz [cells] cs.toList :=
  RowsRd.one_row (by simpa using h.1) hs (fun v hv => h.2.1 v (by simpa using hv)) (fun i a v ha hv => h.2.2 i a v ha (by simpa using hv))

def TEok (P : Program) (te : TE) : Prop := ∀ t i, te t = some i → tiOK P t i = true
theorem TEok.get {P : Program} {te : TE} (h : TEok P te) {t : TypeId} {i : TI} (ht : te t = some i) : ∃ inf d z, TF P t i inf d z := tiOK_facts (h t i ht)

section
variable {P : Program} {t : TypeId} {i : TI} {inf : TypeInfo} {d : TypeDesc} {z : Value}
theorem TF.run_size (h : TF P t i inf d z) (w : World) : (sizeOf t).run P w = .ok i.size w := by simp [sizeOf, typeInfo, h.info, h.size]
theorem TF.run_zero (h : TF P t i inf d z) (w : World) : (zeroValue t).run P w = .ok z w := by simp [zeroValue, typeInfo, h.info, h.zero]
theorem TF.run_isAgg (h : TF P t i inf d z) (w : World) : (isAgg t).run P w = .ok (isAggD d) w := by
  unfold isAgg
  rw [Sem.run_bind, run_underlying h.und]
  cases d <;> rfl
theorem TF.kagg (h : TF P t i inf d z) : i.kind.isAgg = isAggD d := by
  have := h.kind
  unfold kOK at this
  split at this <;> simp_all [TK.isAgg, isAggD]
theorem TF.kint (h : TF P t i inf d z) {k : IntKind} (hk : i.kind = .int k) : d = .int k := by
  have := h.kind
  rw [hk] at this
  cases d <;> simp [kOK] at this
  subst this; rfl
theorem TF.kbool (h : TF P t i inf d z) (hk : i.kind = .bool) : d = .bool := by
  have := h.kind
  rw [hk] at this
  cases d <;> simp [kOK] at this
  rfl
theorem TF.kstr (h : TF P t i inf d z) (hk : i.kind = .str) : d = .string := by
  have := h.kind
  rw [hk] at this
  cases d <;> simp [kOK] at this
  rfl
theorem TF.kslice (h : TF P t i inf d z) {e : TypeId} (hk : i.kind = .slice e) : d = .slice e := by
  have := h.kind
  rw [hk] at this
  cases d <;> simp [kOK] at this
  subst this; rfl
end

end Go.Rf
end
/-
  THE SYMBOLIC EXECUTOR, part 6: how each kind of operation takes the memory on.
-/
section
set_option linter.unusedVariables false
set_option linter.unusedSimpArgs false
namespace Go.Rf

def upd (ρ : Reg) (p : Nat) (l : Loc) : Reg := fun q => if q = p then l else ρ q
theorem upd_same (ρ : Reg) (p : Nat) (l : Loc) : upd ρ p l p = l := by simp [upd]
theorem upd_other (ρ : Reg) (p q : Nat) (l : Loc) (h : q ≠ p) : upd ρ p l q = ρ q := by simp [upd, h]

/-- A place that is still free. -/
def Fresh (H : List Ent) (p : Nat) : Prop := p ≤ H.length ∧ (p < H.length → H[p]? = some .none)
theorem Fresh.end (H : List Ent) : Fresh H H.length := ⟨Nat.le_refl _, fun h => absurd h (Nat.lt_irrefl _)⟩
theorem Fresh.dead {H : List Ent} {p : Nat} (h : Fresh H p) {e : Ent} (he : H[p]? = some e) {ρ : Reg} (hl : live ρ p e) : False := by
  have := h.2 (List.getElem?_eq_some_iff.1 he).1
  rw [he] at this
  cases this
  exact hl
theorem Fresh.ver {w : World} {S : Nat → Prop} {ρ : Reg} {H : List Ent} {p : Nat} (h : Fresh H p) (hr : RH w S ρ H) (hl : p < H.length) : (ρ p).ver = 0 := hr.ent p .none (h.2 hl)

theorem newer_upd {ρ : Reg} {p n : Nat} {l : Loc} (h : p < n → (ρ p).ver < l.ver) : Newer ρ (upd ρ p l) n := fun q hq => by
  by_cases hqp : q = p
  · subst hqp; rw [upd_same]; exact .inr (h hq)
  · rw [upd_other _ _ _ _ hqp]; exact .inl rfl

/-- How an instruction goes. -/
def Step (P : Program) (w : World) (S : Nat → Prop) (ρ : Reg) (H : List Ent) (m : Sem Value) (v : AV) (H' : List Ent) : Prop :=
  ∃ x w' S' ρ', m.run P w = .ok x w' ∧ Rd w' S' ρ' H'.length v x ∧ RH w' S' ρ' H' ∧ Goes w S ρ H w' S' ρ' H' H.length

section
variable {P : Program} {w : World} {S : Nat → Prop} {ρ : Reg} {H : List Ent}

theorem Step.pure (hm : RH w S ρ H) {m : Sem Value} {v : AV} {x : Value} (hr : m.run P w = .ok x w) (hv : Rd w S ρ H.length v x) : Step P w S ρ H m v H :=
  ⟨x, w, S, ρ, hr, hv, hm, Goes.refl w S ρ H (Nat.le_refl _)⟩

/-- A new block under a place. -/
theorem RH.fresh (h : RH w S ρ H) {p : Nat} (hp : Fresh H p) (w' : World) (l : Loc) (e' : Ent) (hver : l.ver = 1)
    (hos : w'.os = w.os) (htape : w'.tape = w.tape) (hout : w'.output = w.output) (hsize : w.heap.size ≤ w'.heap.size) (hkeep : ∀ k, k < w.heap.size → w'.heap[k]? = w.heap[k]?)
    (hblk : live (upd ρ p l) p e' → w.heap.size ≤ l.blk)
    (he : Later S S w w' → Newer ρ (upd ρ p l) H.length → H.length ≤ (setH H p e').length → EntRd w' S (upd ρ p l) (setH H p e').length p e') :
    RH w' S (upd ρ p l) (setH H p e') ∧ Goes w S ρ H w' S (upd ρ p l) (setH H p e') H.length := by
  have hS : Later S S w w' := fun k hk => ⟨hk, hkeep k (h.stab k hk).1⟩
  have hN : Newer ρ (upd ρ p l) H.length := newer_upd fun hlt => by rw [hp.ver h hlt, hver]; exact Nat.one_pos
  have hlen : H.length ≤ (setH H p e').length := by rw [setH_length H p e' hp.1]; omega
  refine h.change hp.1 (fun q hq => upd_other _ _ _ _ hq) (fun hlt => hN p hlt) hos htape hout hsize (fun k hk _ => hkeep k hk) ?_ (fun _ h => h) (fun _ h => .inl h) (he hS hN hlen)
  intro hl
  exact .inr (by rw [upd_same]; exact hblk hl)

theorem Step.var (hm : RH w S ρ H) {p : Nat} (hp : Fresh H p) {m : Sem Value} {cells : List AV} {cs : Array Value} {ty : TypeId}
    (hr : m.run P w = .ok (.pointer (some ⟨w.heap.size, 0, none⟩)) (w.alloc (.cells cs ty))) (hc : CellsRd w S ρ H.length cells cs) : Step P w S ρ H m (.ptr p 0) (setH H p (.var cells)) := by
  have key := hm.fresh hp (w.alloc (.cells cs ty)) ⟨w.heap.size, 0, 1, 0⟩ (.var cells) rfl rfl rfl rfl (by simp) (fun k hk => heap_alloc_old w (.cells cs ty) hk) (fun _ => Nat.le_refl _)
    (fun hS hN hl => ⟨by rw [upd_same], cs, ty, by rw [upd_same]; exact heap_alloc_new w _, hc.mono hS hl hN⟩)
  refine ⟨_, _, S, upd ρ p ⟨w.heap.size, 0, 1, 0⟩, hr, ?_, key.1, key.2⟩
  refine .ptr _ _ _ _ ?_ ?_ ?_
  · rw [setH_length H p _ hp.1]; omega
  · rw [upd_same]; exact Nat.le_refl _
  · intro _; rw [upd_same]

/-- A new row that nobody will write any more. -/
theorem RH.stable (hm : RH w S ρ H) (w' : World) (hos : w'.os = w.os) (htape : w'.tape = w.tape) (hout : w'.output = w.output) (hsize : w'.heap.size = w.heap.size + 1) (hkeep : ∀ k, k < w.heap.size → w'.heap[k]? = w.heap[k]?) :
    RH w' (fun k => S k ∨ k = w.heap.size) ρ H ∧ Goes w S ρ H w' (fun k => S k ∨ k = w.heap.size) ρ H H.length ∧ Later S (fun k => S k ∨ k = w.heap.size) w w' := by
  have key := hm.same (S' := fun k => S k ∨ k = w.heap.size) hos htape hout (by omega) hkeep (fun _ h => .inl h) (fun k h => h.elim .inl (fun h => .inr ⟨by omega, by omega⟩))
  exact ⟨key.1, key.2, fun k hk => ⟨.inl hk, hkeep k (hm.stab k hk).1⟩⟩

theorem Step.row (hm : RH w S ρ H) {m : Sem Value} {sz cap : Nat} {es : List (List AV)} {vs : List Value} {cs : Array Value} {ty : TypeId} {f : Nat × Nat} (w' : World) (fr : Bool)
    (hr : m.run P w = .ok (.slice (some ⟨w.heap.size, 0, none⟩) es.length cap) w')
    (hos : w'.os = w.os) (htape : w'.tape = w.tape) (hout : w'.output = w.output) (hsize : w'.heap.size = w.heap.size + 1) (hkeep : ∀ k, k < w.heap.size → w'.heap[k]? = w.heap[k]?)
    (hnew : w'.heap[w.heap.size]? = some (.cells cs ty f)) (hcs : ∀ (j : Nat) (v : Value), vs[j]? = some v → cs[j]? = some v)
    (hc : RowsRd w S ρ 0 sz es vs) (hle : es.length ≤ cap) (hmx : cap ≤ maxLen) (hf : fr = true → cap = es.length) : Step P w S ρ H m (.sl sz fr es) H := by
  obtain ⟨h1, h2, h3⟩ := hm.stable w' hos htape hout hsize hkeep
  refine ⟨_, w', _, ρ, hr, ?_, h1, h2⟩
  refine Rd.sl_of_rows fr (hc.mono h3 (Nat.le_refl _) (Newer.refl _ _)) _ cap hle hmx hf ?_
  intro _
  refine ⟨_, rfl, .inr rfl, fun j v hv => ?_⟩
  rw [Addr.add_lit, cell_of_row w' w.heap.size _ cs ty f hnew]
  simpa using hcs j v hv

/-- A place's array is filled anew, in its own block. -/
theorem RH.fill (h : RH w S ρ H) {p : Nat} {e e' : Ent} (he : H[p]? = some e) (l : Loc) (w' : World) (hl : l = ρ p ∨ (ρ p).ver < l.ver) (hb : l.blk = (ρ p).blk)
    (hos : w'.os = w.os) (htape : w'.tape = w.tape) (hout : w'.output = w.output) (hsize : w.heap.size ≤ w'.heap.size) (hkeep : ∀ k, k < w.heap.size → (live ρ p e → k ≠ (ρ p).blk) → w'.heap[k]? = w.heap[k]?)
    (hlive : live (upd ρ p l) p e' → live ρ p e)
    (hE : Later S S w w' → Newer ρ (upd ρ p l) H.length → EntRd w' S (upd ρ p l) H.length p e') :
    RH w' S (upd ρ p l) (setH H p e') ∧ Goes w S ρ H w' S (upd ρ p l) (setH H p e') H.length := by
  have hp : p < H.length := (List.getElem?_eq_some_iff.1 he).1
  have hlen : (setH H p e').length = H.length := by rw [setH_length H p e' (Nat.le_of_lt hp)]; omega
  have hS : Later S S w w' := fun k hk => ⟨hk, hkeep k (h.stab k hk).1 (fun hv hk2 => (h.stab k hk).2 ⟨p, e, he, hv, hk2.symm⟩)⟩
  have hN : Newer ρ (upd ρ p l) H.length := fun q hq => by
    by_cases hqp : q = p
    · subst hqp; rw [upd_same]; exact hl
    · rw [upd_other _ _ _ _ hqp]; exact .inl rfl
  refine h.change (Nat.le_of_lt hp) (fun q hq => upd_other _ _ _ _ hq) (fun hlt => hN p hlt) hos htape hout hsize ?_ ?_ (fun _ h => h) (fun _ h => .inl h) (by rw [hlen]; exact hE hS hN)
  · intro k hk hne
    exact hkeep k hk (fun hv => hne e he hv)
  · intro hl'
    exact .inl ⟨by rw [upd_same]; exact hb, e, he, hlive hl'⟩

/-- A place's array moves to a new block. -/
theorem RH.move (h : RH w S ρ H) {p : Nat} {e e' : Ent} (he : H[p]? = some e) (l : Loc) (w' : World) (hl : (ρ p).ver < l.ver) (hb : live (upd ρ p l) p e' → w.heap.size ≤ l.blk)
    (hos : w'.os = w.os) (htape : w'.tape = w.tape) (hout : w'.output = w.output) (hsize : w.heap.size ≤ w'.heap.size) (hkeep : ∀ k, k < w.heap.size → w'.heap[k]? = w.heap[k]?)
    (hE : Later S S w w' → Newer ρ (upd ρ p l) H.length → EntRd w' S (upd ρ p l) H.length p e') :
    RH w' S (upd ρ p l) (setH H p e') ∧ Goes w S ρ H w' S (upd ρ p l) (setH H p e') H.length := by
  have hp : p < H.length := (List.getElem?_eq_some_iff.1 he).1
  have hlen : (setH H p e').length = H.length := by rw [setH_length H p e' (Nat.le_of_lt hp)]; omega
  have hS : Later S S w w' := fun k hk => ⟨hk, hkeep k (h.stab k hk).1⟩
  have hN : Newer ρ (upd ρ p l) H.length := newer_upd fun _ => hl
  refine h.change (Nat.le_of_lt hp) (fun q hq => upd_other _ _ _ _ hq) (fun hlt => hN p hlt) hos htape hout hsize (fun k hk _ => hkeep k hk) ?_ (fun _ h => h) (fun _ h => .inl h) (by rw [hlen]; exact hE hS hN)
  intro hl'
  exact .inr (by rw [upd_same]; exact hb hl')

theorem getD_some {H : List Ent} {q : Nat} {e : Ent} (h : H.getD q .none = e) (hn : e ≠ .none) : H[q]? = some e := by
  rw [List.getD_eq_getElem?_getD] at h
  cases hq : H[q]? with
  | none => rw [hq] at h; exact absurd h.symm hn
  | some f => rw [hq] at h; simp at h; rw [h]

/-- What leaves the memory alone. -/
def Plain (P : Program) (w : World) (S : Nat → Prop) (ρ : Reg) (H : List Ent) (m : Sem Value) (out : Out) : Prop :=
  out.w = [] ∧ ∃ x, m.run P w = .ok x w ∧ Rd w S ρ H.length out.v x
theorem Plain.step (hm : RH w S ρ H) {m : Sem Value} {out : Out} (h : Plain P w S ρ H m out) : Step P w S ρ H m out.v (putH H out.w) := by
  obtain ⟨h1, x, h2, h3⟩ := h
  rw [h1]
  exact Step.pure hm h2 h3

/-! ### Loads -/
theorem cellsFrom_get {es : List (List AV)} {k : Nat} {e : List AV} (he : es[k]? = some e) : ∀ n j, j + n ≤ e.length → (cellsFrom es k j n).length = n ∧ ∀ (r : Nat) (a : AV), (cellsFrom es k j n)[r]? = some a → e[j + r]? = some a
  | 0, j, _ => ⟨rfl, by simp [cellsFrom]⟩
  | n + 1, j, hj => by
    obtain ⟨i1, i2⟩ := cellsFrom_get he n (j + 1) (by omega)
    refine ⟨by simp [cellsFrom, i1], fun r a hr => ?_⟩
    cases r with
    | zero =>
      simp only [cellsFrom, List.getElem?_cons_zero, Option.some.injEq, cellAt, List.getD_eq_getElem?_getD, he, Option.getD_some] at hr
      rw [List.getElem?_eq_getElem (show j < e.length by omega)] at hr
      simp at hr
      simp [← hr, show j < e.length by omega]
    | succ r =>
      have := i2 r a (by simpa [cellsFrom] using hr)
      rw [← this]; congr 1; omega

theorem mkVal_rd {agg : Bool} {cells : List AV} {vs : List Value} (hl : vs.length = cells.length) (h1 : ∀ v ∈ vs, v.oneCell' = true) {n : Nat}
    (h : ∀ (i : Nat) (a : AV) (v : Value), cells[i]? = some a → vs[i]? = some v → Rd w S ρ n a v) (hs : agg = false → cells.length = 1) :
    Rd w S ρ n (mkVal agg cells) (if agg then .agg vs.toArray else vs.getD 0 undef) := by
  cases agg with
  | true => exact .agg _ cells vs hl.symm h1 h
  | false =>
    have hc := hs rfl
    match cells, vs, hc, hl with
    | [a], [v], _, _ => simpa [mkVal] using h 0 a v rfl rfl

theorem run_loadVar_cells {t : TypeId} {i : TI} {inf : TypeInfo} {d : TypeDesc} {z : Value} (hf : TF P t i inf d z) (a : Addr) (vs : List Value) (hl : vs.length = i.size)
    (hc : ∀ (j : Nat) (v : Value), vs[j]? = some v → w.cell? (a.add j) = some v) : (loadVar t a).run P w = .ok (if i.kind.isAgg then .agg vs.toArray else vs.getD 0 undef) w := by
  unfold loadVar
  rw [Sem.run_bind, hf.run_isAgg, hf.kagg]
  cases hd : isAggD d with
  | true =>
    have := run_loadCells_list (P := P) w a vs hc
    rw [hl] at this
    simp [hf.run_size, this]
  | false =>
    have h1 := hf.one hd
    have h0 : vs[0]? = some (vs.getD 0 undef) := by
      rw [List.getD_eq_getElem?_getD, List.getElem?_eq_getElem (by omega)]; rfl
    have := hc 0 _ h0
    rw [Addr.add_zero'] at this
    simp [this]

theorem load_var (hm : RH w S ρ H) {t : TypeId} {i : TI} {inf : TypeInfo} {d : TypeDesc} {z : Value} (hf : TF P t i inf d z) {a : AV} {v : Value} (hv : Rd w S ρ H.length a v) {out : Out}
    (he : evLoad H i.kind.isAgg i.size a = some out) (hc : condK out.c True) : Plain P w S ρ H (Instr.loadAt t v) out := by
  unfold evLoad at he
  cases hv with
  | ptr _ p off A hp hver h =>
    simp only [loadP] at he
    split at he
    · rename_i cells hq
      obtain ⟨h1, h2⟩ := ifo_some he
      have hle := lenLe_le h1
      cases h2
      have hent := hm.ent p _ (getD_some hq (by simp))
      obtain ⟨k0, cs, ty, k1, k2⟩ := hent
      have hA := h k0
      have hsz : ((cs.toList.drop off).take i.size).length = i.size := by simp [k2.1]; omega
      have hrun := run_loadVar_cells (P := P) (w := w) hf A ((cs.toList.drop off).take i.size) hsz (by
        intro j u hu
        rw [List.getElem?_take] at hu
        split at hu
        · rw [List.getElem?_drop] at hu
          subst hA
          rw [Addr.add_lit, cell_of_row w _ _ cs ty _ k1]
          simpa using hu
        · cases hu)
      refine ⟨rfl, _, (show (Instr.loadAt t _).run P w = _ from hrun), ?_⟩
      refine mkVal_rd ?_ ?_ ?_ ?_
      · rw [hsz]; simp; omega
      · intro u hu
        exact k2.2.1 u (by simpa using List.mem_of_mem_drop (List.mem_of_mem_take hu))
      · intro j x u hx hu
        rw [List.getElem?_take] at hx hu
        split at hx
        · rename_i hj
          rw [if_pos hj] at hu
          rw [List.getElem?_drop] at hx hu
          exact k2.2.2 _ x u hx (by simpa using hu)
        · cases hx
      · intro hagg
        have := hf.one (by rw [← hf.kagg]; exact hagg)
        simp; omega
    · cases he
  | eptr _ p ver k j A hp hver h =>
    simp only [loadE] at he
    split at he
    · rename_i cl v sz cap es hq
      obtain ⟨h1, h2⟩ := ifo_some he
      have hle := leb_le h1
      cases h2
      simp only [condK] at hc
      obtain ⟨⟨rfl, hlt⟩, _⟩ := hc
      have hent := hm.ent p _ (getD_some hq (by simp))
      have hver' := hent.1
      have hcap : 0 < (ρ p).cap := by have := hent.2.2.2.2.1; omega
      have hszp := hent.2.2.1
      have hA := h hver'.symm (by have := hent.2.2.2.2.1; omega)
      obtain ⟨cs, ty, k1, k2, k3, k4⟩ := hent.rows hcap
      have he' : es[k]? = some es[k] := List.getElem?_eq_getElem hlt
      have hrow : es[k].length = sz := k4.row _ (List.getElem_mem hlt)
      have hbig := k4.len
      rw [List.length_take] at hbig
      have hidx : k * sz + sz ≤ es.length * sz := by
        have := Nat.mul_le_mul_right sz hlt
        rw [Nat.succ_mul] at this
        omega
      have hsz : ((cs.toList.drop (k * sz + j)).take i.size).length = i.size := by
        simp at hbig ⊢
        omega
      have hrun := run_loadVar_cells (P := P) (w := w) hf A ((cs.toList.drop (k * sz + j)).take i.size) hsz (by
        intro r u hu
        rw [List.getElem?_take] at hu
        split at hu
        · rw [List.getElem?_drop] at hu
          subst hA
          rw [hszp, Addr.add_lit, cell_of_row w _ _ cs ty _ k1]
          simpa using hu
        · cases hu)
      refine ⟨rfl, _, (show (Instr.loadAt t _).run P w = _ from hrun), ?_⟩
      obtain ⟨c1, c2⟩ := cellsFrom_get he' i.size j (by omega)
      refine mkVal_rd ?_ ?_ ?_ ?_
      · rw [hsz, c1]
      · intro u hu
        exact k3 u (by simpa using List.mem_of_mem_drop (List.mem_of_mem_take hu))
      · intro r x u hx hu
        rw [List.getElem?_take] at hu
        split at hu
        · rw [List.getElem?_drop] at hu
          have hx' := c2 r x hx
          have := k4.rd k (j + r) _ x u he' hx' (by
            rw [List.getElem?_take, if_pos (by omega)]
            rw [← hu]; congr 1; omega)
          cases cl with
          | true => exact this.mono (Later.refl _ _) (Nat.zero_le _) (Newer.refl _ _)
          | false => exact this
        · cases hu
      · intro hagg
        have := hf.one (by rw [← hf.kagg]; exact hagg)
        rw [c1]; omega
    · cases he
  | rptr _ sz es k j a e cell he' hl hcell h =>
    obtain ⟨h1, h2⟩ := ifo_some he
    have hle := leb_le h1
    cases h2
    obtain ⟨c1, c2⟩ := cellsFrom_get he' i.size j (by omega)
    have key : ∀ r u, ((List.range i.size).map fun r => cell (j + r))[r]? = some u → r < i.size ∧ u = cell (j + r) := by
      intro r u hu
      rw [List.getElem?_map] at hu
      rcases Nat.lt_or_ge r i.size with hr | hr
      · rw [List.getElem?_range hr] at hu; simp at hu; exact ⟨hr, hu.symm⟩
      · rw [List.getElem?_eq_none (by simpa using hr)] at hu; simp at hu
    have hrun := run_loadVar_cells (P := P) (w := w) hf a ((List.range i.size).map fun r => cell (j + r)) (by simp) (by
      intro r u hu
      obtain ⟨hr, rfl⟩ := key r u hu
      have := (hcell (j + r) (by omega) (by omega)).2.1
      rw [← this]; congr 2; omega)
    refine ⟨rfl, _, (show (Instr.loadAt t _).run P w = _ from hrun), ?_⟩
    refine mkVal_rd ?_ ?_ ?_ ?_
    · simp [c1]
    · intro u hu
      obtain ⟨r, hr⟩ := List.getElem?_of_mem hu
      obtain ⟨hr, rfl⟩ := key r u hr
      exact (hcell (j + r) (by omega) (by omega)).2.2
    · intro r x u hx hu
      obtain ⟨hr, rfl⟩ := key r u hu
      exact (h (j + r) x (c2 r x hx)).mono (Later.refl _ _) (Nat.zero_le _) (Newer.refl _ _)
    · intro hagg
      have := hf.one (by rw [← hf.kagg]; exact hagg)
      rw [c1]; omega
  | _ => cases he

end
end Go.Rf
end
/-
  THE SYMBOLIC EXECUTOR, part 7: stores, and the operations that leave the memory alone.
-/
section
set_option linter.unusedVariables false
set_option linter.unusedSimpArgs false
namespace Go.Rf

theorem seg_get {α : Type} (l new : List α) (o j : Nat) (h : o + new.length ≤ l.length) :
    (l.take o ++ new ++ l.drop (o + new.length))[j]? = if j < o then l[j]? else if j < o + new.length then new[j - o]? else l[j]? := by
  have hm : min o l.length = o := by omega
  simp only [List.getElem?_append, List.length_append, List.length_take, hm, List.getElem?_take, List.getElem?_drop]
  by_cases h1 : j < o
  · simp [h1, show j < o + new.length by omega]
  · by_cases h2 : j < o + new.length
    · simp [h1, h2]
    · simp only [h1, h2, if_false]
      congr 1
      omega
theorem seg_length {α : Type} (l new : List α) (o : Nat) (h : o + new.length ≤ l.length) : (l.take o ++ new ++ l.drop (o + new.length)).length = l.length := by
  simp; omega
theorem setCells_get : ∀ (as cells : List AV) (off j : Nat), off + as.length ≤ cells.length → (setCells cells off as)[j]? = if j < off then cells[j]? else if j < off + as.length then as[j - off]? else cells[j]?
  | [], cells, off, j, h => by simp [setCells]; intro h1 h2; omega
  | a :: as, cells, off, j, h => by
    simp only [setCells]
    rw [setCells_get as (cells.set off a) (off + 1) j (by simp at h ⊢; omega)]
    simp only [List.length_cons] at h ⊢
    by_cases h1 : j < off
    · simp [h1, show j < off + 1 by omega, show off ≠ j by omega]
    · by_cases h2 : j = off
      · subst h2; simp [show j < cells.length by omega]
      · by_cases h3 : j < off + 1 + as.length
        · simp [h1, show ¬ j < off + 1 by omega, h3, show j < off + (as.length + 1) by omega, show j - off = (j - (off + 1)) + 1 by omega]
        · simp [h1, show ¬ j < off + 1 by omega, h3, show ¬ j < off + (as.length + 1) by omega, show off ≠ j by omega]

section
variable {P : Program} {w : World} {S : Nat → Prop} {ρ : Reg} {H : List Ent}

theorem run_storeVar_at {t : TypeId} {i : TI} {inf : TypeInfo} {d : TypeDesc} {z : Value} (hf : TF P t i inf d z) (g o : Nat) (cur : Array Value) (ty : TypeId) (v : Value) (hs : v.cells.size = i.size)
    (hg : w.heap[g]? = some (.cells cur ty (0, 0))) (hfit : o + i.size ≤ cur.size) (h1 : ∀ u ∈ v.cells, u.oneCell' = true) :
    (storeVar t ⟨g, o, none⟩ v).run P w = .ok () (w.setRow g (cur.toList.take o ++ v.cells.toList ++ cur.toList.drop (o + v.cells.toList.length)).toArray) := by
  have := run_storeCells_at P g o ty v.cells.toList 0 cur w hg (by simpa [hs] using hfit) (fun u hu => h1 u (by simpa using hu))
  simp only [Nat.add_zero] at this
  unfold storeVar
  rw [Sem.run_bind, hf.run_size]
  simp only [Result.andThen_ok, hs, ne_eq, not_true_eq_false, if_false]
  exact this

/-- The store's own step: nothing comes back. -/
def StepU (P : Program) (w : World) (S : Nat → Prop) (ρ : Reg) (H : List Ent) (m : Sem Unit) (H' : List Ent) : Prop :=
  ∃ w' S' ρ', m.run P w = .ok () w' ∧ RH w' S' ρ' H' ∧ Goes w S ρ H w' S' ρ' H' H.length

theorem upd_self (ρ : Reg) (p : Nat) : upd ρ p (ρ p) = ρ := by funext q; unfold upd; split <;> simp_all

theorem store_var (hm : RH w S ρ H) {t : TypeId} {i : TI} {inf : TypeInfo} {d : TypeDesc} {z : Value} (hf : TF P t i inf d z) {a x : AV} {v u : Value} (hv : Rd w S ρ H.length a v) (hx : Rd w S ρ H.length x u) {out : Out}
    (he : evStore H i.size (cellsOf x) a = some out) (hc : condK out.c True) : StepU P w S ρ H (Instr.storeAt t v u) (putH H out.w) := by
  cases hcs : cellsOf x with
  | none => rw [hcs] at he; cases a <;> cases he
  | some as =>
    rw [hcs] at he
    have hcx := hx.cells hcs
    cases hv with
    | ptr _ p off A hp hver h =>
      simp only [evStore, storeP] at he
      split at he
      · rename_i cells hq
        obtain ⟨h1, h2⟩ := ifo_some he
        obtain ⟨h3, h4⟩ := andB_true h1
        have hn := lenEq_eq h3
        have hle := lenLe_le h4
        cases h2
        have hget := getD_some hq (by simp)
        have hent := hm.ent p _ hget
        obtain ⟨k0, cs, ty, k1, k2⟩ := hent
        have hA := h k0
        subst hA
        have hus : u.cells.size = i.size := by rw [hcx.1, hn]
        have hrun := run_storeVar_at (P := P) (w := w) hf (ρ p).blk off cs ty u hus k1 (by rw [k2.1]; exact hle) hcx.2.1
        have hlen : u.cells.toList.length = as.length := by simpa using hcx.1
        have hfit : off + u.cells.toList.length ≤ cs.toList.length := by
          have := k2.1
          simp only [Array.length_toList] at *
          omega
        have key := hm.fill hget (ρ p) (w.setRow (ρ p).blk (cs.toList.take off ++ u.cells.toList ++ cs.toList.drop (off + u.cells.toList.length)).toArray) (e' := .var (setCells cells off as)) (.inl rfl) rfl rfl rfl rfl (by simp)
          (fun k hk hne => setRow_other w _ k _ (hne trivial)) (fun _ => trivial) (by
            intro hS hN
            rw [upd_self] at hN ⊢
            refine ⟨k0, _, ty, setRow_heap w _ cs _ ty _ k1, ?_, ?_, ?_⟩
            · rw [List.size_toArray, seg_length _ _ _ hfit, setCells_length]; simpa using k2.1
            · intro y hy
              simp only [List.mem_toArray, List.mem_append] at hy
              rcases hy with (hy | hy) | hy
              · exact k2.2.1 y (by simpa using List.mem_of_mem_take hy)
              · exact hcx.2.1 y (by simpa using hy)
              · exact k2.2.1 y (by simpa using List.mem_of_mem_drop hy)
            · intro j b y hb hy
              rw [List.getElem?_toArray, seg_get _ _ _ _ hfit] at hy
              rw [setCells_get _ _ _ _ (by omega)] at hb
              rw [hlen] at hy
              split at hb
              · rename_i hj; rw [if_pos hj] at hy; exact (k2.2.2 j b y hb (by simpa using hy)).mono hS (Nat.le_refl _) hN
              · rename_i hj
                rw [if_neg hj] at hy
                split at hb
                · rename_i hj2; rw [if_pos hj2] at hy; exact (hcx.2.2 _ b y hb (by simpa using hy)).mono hS (Nat.le_refl _) hN
                · rename_i hj2; rw [if_neg hj2] at hy; exact (k2.2.2 j b y hb (by simpa using hy)).mono hS (Nat.le_refl _) hN)
        rw [upd_self] at key
        exact ⟨_, S, ρ, (show (storeVar t _ _).run P w = _ from hrun), key.1, key.2⟩
      · cases he
    | eptr _ p ver k j A hp hver h =>
      simp only [evStore, storeE] at he
      split at he
      · rename_i cl v sz cap es hq
        obtain ⟨h1, h2⟩ := ifo_some he
        obtain ⟨h3, h4⟩ := andB_true h1
        have hn := lenEq_eq h3
        have hle := leb_le h4
        cases h2
        simp only [condK] at hc
        obtain ⟨⟨rfl, hlt⟩, _⟩ := hc
        have hget := getD_some hq (by simp)
        have hent := hm.ent p _ hget
        obtain ⟨e1, e2, e3, e4, e5, e6, e7, e8, e9⟩ := hent
        have hcap : 0 < (ρ p).cap := by omega
        have hA := h e1.symm (by omega)
        subst hA
        obtain ⟨cs, ty, k1, k2, k3, k4⟩ := e9 hcap
        have hidx : k * sz + sz ≤ (ρ p).cap * sz := by
          have := Nat.mul_le_mul_right sz (show k + 1 ≤ (ρ p).cap by omega)
          rw [Nat.succ_mul] at this
          omega
        have hus : u.cells.size = i.size := by rw [hcx.1, hn]
        have hlen : u.cells.toList.length = as.length := by simpa using hcx.1
        have hrun := run_storeVar_at (P := P) (w := w) hf (ρ p).blk (k * (ρ p).sz + j) cs ty u hus k1 (by rw [e3, k2]; omega) hcx.2.1
        have hfit : k * (ρ p).sz + j + u.cells.toList.length ≤ cs.toList.length := by
          rw [hlen, hn, Array.length_toList, k2, e3]; omega
        have hrow : es[k].length = sz := e8 _ (List.getElem_mem hlt)
        have hgk : es.getD k [] = es[k] := by simp [List.getD_eq_getElem?_getD, List.getElem?_eq_getElem hlt]
        have key := hm.fill hget (ρ p) (w.setRow (ρ p).blk (cs.toList.take (k * (ρ p).sz + j) ++ u.cells.toList ++ cs.toList.drop (k * (ρ p).sz + j + u.cells.toList.length)).toArray)
          (e' := .arr (Rf.andB cl (closedAll as)) v sz cap (es.set k (setCells (es.getD k []) j (nfs as)))) (.inl rfl) rfl rfl rfl rfl (by simp)
          (fun k hk hne => setRow_other w _ k _ (hne hcap)) (fun _ => hcap) (by
            intro hS hN
            rw [upd_self] at hN ⊢
            refine ⟨e1, e2, e3, e4, by simpa using e5, e6, e7, ?_, fun _ => ⟨_, ty, setRow_heap w _ cs _ ty _ k1, ?_, ?_, ?_⟩⟩
            · intro e he
              rcases List.mem_or_eq_of_mem_set he with he | he
              · exact e8 e he
              · rw [he, setCells_length, hgk, hrow]
            · rw [List.size_toArray, seg_length _ _ _ hfit]; simpa using k2
            · intro y hy
              simp only [List.mem_toArray, List.mem_append] at hy
              rcases hy with (hy | hy) | hy
              · exact k3 y (by simpa using List.mem_of_mem_take hy)
              · exact hcx.2.1 y (by simpa using hy)
              · exact k3 y (by simpa using List.mem_of_mem_drop hy)
            · intro i' k' e b y he hb hy
              rw [List.getElem?_toArray, seg_get _ _ _ _ hfit, hlen, e3] at hy
              have hold : ∀ (e : List AV), es[i']? = some e → e[k']? = some b → cs[i' * sz + k']? = some y → Rd (w.setRow (ρ p).blk (cs.toList.take (k * (ρ p).sz + j) ++ u.cells.toList ++ cs.toList.drop (k * (ρ p).sz + j + u.cells.toList.length)).toArray) S ρ (if Rf.andB cl (closedAll as) then 0 else H.length) b y := by
                intro e he hb hy
                have := k4 i' k' e b y he hb hy
                cases cl with
                | true =>
                  simp only [if_true] at this
                  exact this.mono hS (Nat.zero_le _) (Newer.refl _ _)
                | false => exact this.mono hS (Nat.le_refl _) hN
              by_cases hik : k = i'
              · subst hik
                rw [List.getElem?_set_self hlt] at he
                cases he
                rw [setCells_get _ _ _ _ (by rw [nfs_length, hgk, hrow]; omega), nfs_length] at hb
                have hk'lt : k' < sz := by
                  by_cases hk' : k' < sz
                  · exact hk'
                  · rw [if_neg (by omega), if_neg (by omega), hgk, List.getElem?_eq_none (by omega)] at hb
                    cases hb
                split at hb
                · rename_i hj
                  rw [if_pos (by omega)] at hy
                  exact hold es[k] (List.getElem?_eq_getElem hlt) (by rwa [hgk] at hb) (by simpa using hy)
                · rename_i hj
                  rw [if_neg (by omega)] at hy
                  split at hb
                  · rename_i hj2
                    rw [if_pos (by omega), show k * sz + k' - (k * sz + j) = k' - j by omega] at hy
                    rw [nfs_get] at hb
                    cases hb2 : as[k' - j]? with
                    | none => simp [hb2] at hb
                    | some b' =>
                      simp [hb2] at hb
                      subst hb
                      have := (hcx.2.2 _ b' y hb2 (by simpa using hy)).nf
                      cases hcl : Rf.andB cl (closedAll as) with
                      | true =>
                        have hc2 := (andB_true hcl).2
                        have := ((hcx.2.2 _ b' y hb2 (by simpa using hy)).closed1 (closedAll_get hc2 _ _ hb2)).nf
                        exact this.mono hS (Nat.zero_le _) (Newer.refl _ _)
                      | false => exact this.mono hS (Nat.le_refl _) hN
                  · rename_i hj2
                    rw [if_neg (by omega)] at hy
                    exact hold es[k] (List.getElem?_eq_getElem hlt) (by rwa [hgk] at hb) (by simpa using hy)
              · rw [List.getElem?_set_ne hik] at he
                have hk'lt : k' < sz := by
                  have := (List.getElem?_eq_some_iff.1 hb).1
                  rwa [e8 e (List.mem_of_getElem? he)] at this
                have hout : ¬ (k * sz + j ≤ i' * sz + k' ∧ i' * sz + k' < k * sz + j + as.length) := by
                  rcases Nat.lt_or_gt_of_ne hik with h5 | h5
                  · have := Nat.mul_le_mul_right sz (show k + 1 ≤ i' by omega)
                    rw [Nat.succ_mul] at this
                    omega
                  · have := Nat.mul_le_mul_right sz (show i' + 1 ≤ k by omega)
                    rw [Nat.succ_mul] at this
                    omega
                split at hy
                · exact hold e he hb (by simpa using hy)
                · split at hy
                  · omega
                  · exact hold e he hb (by simpa using hy))
        rw [upd_self] at key
        exact ⟨_, S, ρ, (show (storeVar t _ _).run P w = _ from hrun), key.1, key.2⟩
      · cases he
    | _ => cases he

end
end Go.Rf
end
/-
  THE SYMBOLIC EXECUTOR, part 8: the operations that leave the memory alone.
-/
section
set_option linter.unusedVariables false
set_option linter.unusedSimpArgs false
namespace Go.Rf

section
variable {P : Program} {w : World} {S : Nat → Prop} {ρ : Reg} {H : List Ent}

theorem retc_some {c : Prop} [d : Decidable c] {v : AV} {out : Out} (h : retc c v = some out) : out = ⟨some ⟨c, d⟩, v, [], [], none, false⟩ := by unfold retc at h; cases h; rfl
theorem ret_some {v : AV} {out : Out} (h : ret v = some out) : out = ⟨none, v, [], [], none, false⟩ := by unfold ret at h; cases h; rfl

theorem leI_eq (a b : Int) : leI a b = decide (a ≤ b) := by
  cases a with
  | ofNat m =>
    cases b with
    | ofNat n =>
      show Nat.ble m n = _
      cases h : Nat.ble m n with
      | true => have := Nat.le_of_ble_eq_true h; exact (decide_eq_true (by simp only [Int.ofNat_eq_natCast]; omega)).symm
      | false => have : ¬ m ≤ n := fun h' => by rw [Nat.ble_eq_true_of_le h'] at h; cases h
                 exact (decide_eq_false (by simp only [Int.ofNat_eq_natCast]; omega)).symm
    | negSucc n => exact (decide_eq_false (by simp only [Int.ofNat_eq_natCast]; omega)).symm
  | negSucc m =>
    cases b with
    | ofNat n => exact (decide_eq_true (by simp only [Int.ofNat_eq_natCast]; omega)).symm
    | negSucc n =>
      show Nat.ble n m = _
      cases h : Nat.ble n m with
      | true => have := Nat.le_of_ble_eq_true h; exact (decide_eq_true (by omega)).symm
      | false => have : ¬ n ≤ m := fun h' => by rw [Nat.ble_eq_true_of_le h'] at h; cases h
                 exact (decide_eq_false (by omega)).symm
theorem not_leI (a b : Int) : (!leI b a) = decide (a < b) := by
  rw [leI_eq]
  by_cases h : a < b
  · rw [decide_eq_true h, decide_eq_false (by omega)]; rfl
  · rw [decide_eq_false h, decide_eq_true (by omega)]; rfl

theorem plain_int (t : TypeId) (x y : Operand) (op : BinOp) (k : IntKind) (a : Int) (k' : IntKind) (b : Int) {out : Out} (he : evBinI op k a k' b (isShift op) = some out) (hc : condK out.c True) :
    Plain P w S ρ H (do eqGuard op t x y (.int k a) (.int k' b); binOp op t (.int k a) (.int k' b)) out := by
  have hg : eqGuard op t x y (.int k a) (.int k' b) = Pure.pure () := eqGuard_at_int op t x y _ k a
  rw [hg]
  cases op <;> simp only [isShift, evBinI, evShift, evInt, not_leI] at he <;> try simp only [leI_eq] at he
  case shl =>
    have := retc_some he; subst this
    simp only [condK] at hc
    exact ⟨rfl, _, by simp [binOp, Op.shift, show ¬ b < 0 by omega], .int _ _ _⟩
  case shr =>
    have := retc_some he; subst this
    simp only [condK] at hc
    exact ⟨rfl, _, by simp [binOp, Op.shift, show ¬ b < 0 by omega], .int _ _ _⟩
  case quo =>
    obtain ⟨h1, h2⟩ := ifo_some he
    have := kn_eq h1; subst this
    have := retc_some h2; subst this
    simp only [condK] at hc
    exact ⟨rfl, _, by simp [binOp, Op.intDiv, hc.1], .int _ _ _⟩
  case rem =>
    obtain ⟨h1, h2⟩ := ifo_some he
    have := kn_eq h1; subst this
    have := retc_some h2; subst this
    simp only [condK] at hc
    exact ⟨rfl, _, by simp [binOp, Op.intDiv, hc.1], .int _ _ _⟩
  all_goals
    obtain ⟨h1, h2⟩ := ifo_some he
    have := kn_eq h1; subst this
    have := ret_some h2; subst this
    refine ⟨rfl, _, (by first | (simp [binOp, Op.intArith]; rfl) | (simp [binOp, Op.intCmp]; rfl) | (simp [binOp, Op.intBits]; rfl)), ?_⟩
    first
      | exact Rd.int _ _ _
      | exact Rd.bool _ _

theorem plain_str (t : TypeId) (x y : Operand) (op : BinOp) (a b : ByteArray) {out : Out} (he : evStr a b op = some out) (hc : condK out.c True) :
    Plain P w S ρ H (do eqGuard op t x y (.string a) (.string b); binOp op t (.string a) (.string b)) out := by
  have hg : eqGuard op t x y (.string a) (.string b) = Pure.pure () := eqGuard_at_string op t x y _ a
  rw [hg]
  cases op <;> simp only [evStr] at he
  case add =>
    have := retc_some he; subst this
    simp only [condK] at hc
    refine ⟨rfl, _, ?_, .str _ _⟩
    have h1 : ¬ ((a.size + b.size : Nat) : Int) > IntKind.i64.max := by
      rw [IntKind.max_i64]; omega
    simp only [binOp, Sem.run_bind, Sem.run_pure, Result.andThen_ok, Op.stringOp, if_neg h1]
  all_goals first
    | cases he; done
    | (have := ret_some he; subst this; exact ⟨rfl, _, by simp [binOp, Op.stringOp] <;> rfl, .bool _ _⟩)

theorem plain_bl (te : TE) (hte : TEok P te) (t : TypeId) (x y : Operand) (op : BinOp) (a b : Bool) {out : Out} (he : evBlT op a b (te t) = some out) :
    Plain P w S ρ H (do eqGuard op t x y (.bool a) (.bool b); binOp op t (.bool a) (.bool b)) out := by
  cases hi : te t with
  | none => rw [hi] at he; cases he
  | some i =>
    rw [hi] at he
    obtain ⟨inf, d, z, hf⟩ := hte.get hi
    simp only [evBlT] at he
    cases hk : i.kind <;> rw [hk] at he <;> try (cases he; done)
    have hd := hf.kbool hk
    have hu : P.underlying t = some .bool := by rw [← hd]; exact hf.und
    have hg : eqGuard op t x y (.bool a) (.bool b) = Pure.pure () := eqGuard_at_bool op t x y _ a
    rw [hg]
    simp only [blK] at he
    cases op <;> simp only [evBl] at he
    case eql => have := ret_some he; subst this; exact ⟨rfl, _, by rw [Sem.run_bind]; exact run_eql_bool w t a b hu, .bool _ _⟩
    case neq => have := ret_some he; subst this; exact ⟨rfl, _, by rw [Sem.run_bind]; exact run_neq_bool w t a b hu, .bool _ _⟩
    all_goals cases he

theorem consEq_some {t : Bool} {o : Option Bool} {r : Bool} (h : consEq t o = some r) : ∃ r', o = some r' ∧ r = (t && r') := by
  cases o with
  | none => cases h
  | some r' => cases h; exact ⟨r', rfl, rfl⟩

theorem run_part_one {t : TypeId} {d : TypeDesc} (hu : P.underlying t = some d) (hd : isAggD d = false) (cs : Array Value) (j : Nat) (v : Value) (hv : cs[j]? = some v) : (part t cs j).run P w = .ok v w := by
  have : (isAgg t).run P w = .ok false w := by
    unfold isAgg
    rw [Sem.run_bind, run_underlying hu]
    cases d <;> first | rfl | (simp [isAggD] at hd; done)
  unfold part
  rw [Sem.run_bind, this]
  simp [hv]

theorem run_eqFields (xs ys : Array Value) (n : Nat) : ∀ (zs cs ds : List AV) (fs : List Field) (j : Nat) (r : Bool), qOK P j zs fs = true → eqCells zs cs ds = some r →
    (∀ (i : Nat) (a : AV), cs[i]? = some a → ∃ v, xs[j + i]? = some v ∧ Rd w S ρ n a v) → (∀ (i : Nat) (a : AV), ds[i]? = some a → ∃ v, ys[j + i]? = some v ∧ Rd w S ρ n a v) →
    (Op.eqFields 9999 xs ys fs).run P w = .ok r w := by
  intro zs
  induction zs with
  | nil =>
    intro cs ds fs j r hq he _ _
    cases fs with
    | cons => simp [qOK] at hq
    | nil =>
      cases cs <;> cases ds <;> simp [eqCells] at he
      subst he
      rfl
  | cons z zs ih =>
    intro cs ds fs j r hq he hx hy
    cases fs with
    | nil => simp [qOK] at hq
    | cons f fs =>
      simp only [qOK, Bool.and_eq_true, beq_iff_eq, bne_iff_ne, ne_eq] at hq
      obtain ⟨⟨⟨h1, h2⟩, h3⟩, h4⟩ := hq
      cases hu : P.underlying f.type with
      | none => simp [hu] at h1
      | some d =>
        simp only [hu] at h1
        have main : ∀ (a b : AV) (cs' ds' : List AV) (t r' : Bool), cs = a :: cs' → ds = b :: ds' → eqCells zs cs' ds' = some r' → r = (t && r') → isAggD d = false →
            (∀ u v, Rd w S ρ n a u → Rd w S ρ n b v → (Op.equalIn 9999 f.type u v).run P w = .ok t w) → (Op.eqFields 9999 xs ys (f :: fs)).run P w = .ok r w := by
          intro a b cs' ds' t r' hcs hds hrec hr hd heq
          subst hcs; subst hds
          obtain ⟨u, hu1, hu2⟩ := hx 0 a rfl
          obtain ⟨v, hv1, hv2⟩ := hy 0 b rfl
          have p1 := run_part_one (P := P) (w := w) hu hd xs j u hu1
          have p2 := run_part_one (P := P) (w := w) hu hd ys j v hv1
          have ihr := ih cs' ds' fs (j + 1) r' h4 hrec (fun i c hc => by
            obtain ⟨v, k1, k2⟩ := hx (i + 1) c (by simpa using hc)
            exact ⟨v, by rw [← k1]; congr 1; omega, k2⟩) (fun i c hc => by
            obtain ⟨v, k1, k2⟩ := hy (i + 1) c (by simpa using hc)
            exact ⟨v, by rw [← k1]; congr 1; omega, k2⟩)
          simp only [Op.eqFields, ne_eq, h3, not_false_eq_true, if_true, Sem.run_bind, h2, p1, Result.andThen_ok, p2, heq u v hu2 hv2]
          subst hr
          cases t
          · rfl
          · simpa using ihr
        unfold eqCells at he
        split at he
        · cases ‹_ :: _ = []›
        · rename_i k0 n0 zs' k a xs' l b ys' heq1
          cases heq1
          obtain ⟨g1, g2⟩ := ifo_some he
          have := kn_eq g1; subst this
          obtain ⟨r', g3, g4⟩ := consEq_some g2
          cases d <;> simp [qOne] at h1
          refine main _ _ _ _ (a == b) r' rfl rfl g3 g4 rfl ?_
          intro u v hu' hv'
          cases hu'; cases hv'
          exact run_equalIn_int w 9998 f.type _ _ a b hu
        · rename_i s0 zs' a xs' b ys' heq1
          cases heq1
          obtain ⟨r', g3, g4⟩ := consEq_some he
          cases d <;> simp [qOne] at h1
          refine main _ _ _ _ (a.toList == b.toList) r' rfl rfl g3 g4 rfl ?_
          intro u v hu' hv'
          cases hu'; cases hv'
          exact run_equalIn_string w 9998 f.type a b hu
        · rename_i s0 zs' a xs' b ys' heq1
          cases heq1
          obtain ⟨r', g3, g4⟩ := consEq_some he
          cases d <;> simp [qOne] at h1
          refine main _ _ _ _ (a == b) r' rfl rfl g3 g4 rfl ?_
          intro u v hu' hv'
          cases hu'; cases hv'
          exact run_equalIn_bool w 9998 f.type a b hu
        · cases he

theorem plain_agg (te : TE) (hte : TEok P te) (t : TypeId) (x y : Operand) (op : BinOp) (cs ds : List AV) {u v : Value} (hu : Rd w S ρ H.length (.agg cs) u) (hv : Rd w S ρ H.length (.agg ds) v) {out : Out} (he : evAggT op cs ds (te t) = some out) :
    Plain P w S ρ H (do eqGuard op t x y u v; binOp op t u v) out := by
  cases hi : te t with
  | none => rw [hi] at he; cases he
  | some i =>
    rw [hi] at he
    obtain ⟨inf, d, z, hf⟩ := hte.get hi
    simp only [evAggT] at he
    obtain ⟨h1, h2⟩ := ifo_some he
    obtain ⟨fs, rfl, q1, q2, q3⟩ := hf.eq h1
    have hfo : P.underlying t = some (.struct (P.fieldsOf t)) := by
      have := hf.und
      simp [Program.fieldsOf, this]
    have hfs : P.fieldsOf t = fs := by simp [Program.fieldsOf, hf.und]
    cases hu with
    | agg _ _ vs hl h1v hr =>
      cases hv with
      | agg _ _ us hl' h1u hr' =>
        cases hec : eqCells i.zero cs ds with
        | none => rw [hec] at h2; cases op <;> cases h2
        | some r =>
          rw [hec] at h2
          have hrun : (Op.equalIn 10000 t (.agg vs.toArray) (.agg us.toArray)).run P w = .ok r w := by
            rw [run_equalIn_struct w 9999 t _ _ hfo q2, hfs]
            refine run_eqFields (S := S) (ρ := ρ) _ _ H.length i.zero cs ds fs.toList 0 r q1 hec ?_ ?_
            · intro j a ha
              have hj := (List.getElem?_eq_some_iff.1 ha).1
              exact ⟨vs[j]'(by omega), by simp [List.getElem?_eq_getElem (show j < vs.length by omega)], hr j a _ ha (List.getElem?_eq_getElem _)⟩
            · intro j a ha
              have hj := (List.getElem?_eq_some_iff.1 ha).1
              exact ⟨us[j]'(by omega), by simp [List.getElem?_eq_getElem (show j < us.length by omega)], hr' j a _ ha (List.getElem?_eq_getElem _)⟩
          cases op <;> try (cases h2; done)
          · have := ret_some h2; subst this
            refine ⟨rfl, _, ?_, .bool _ _⟩
            rw [Sem.run_bind, run_eqGuard_agg w _ t x y _ _ q3, Result.andThen_ok, run_eql_struct, hrun]; rfl
          · have := ret_some h2; subst this
            refine ⟨rfl, _, ?_, .bool _ _⟩
            rw [Sem.run_bind, run_eqGuard_agg w _ t x y _ _ q3, Result.andThen_ok, run_neq_struct, hrun]; rfl

theorem plain_bin (te : TE) (hte : TEok P te) (t : TypeId) (x y : Operand) (op : BinOp) {a b : AV} {u v : Value} (hu : Rd w S ρ H.length a u) (hv : Rd w S ρ H.length b v) {out : Out} (he : evBin op (te t) a b = some out) (hc : condK out.c True) :
    Plain P w S ρ H (do eqGuard op t x y u v; binOp op t u v) out := by
  unfold evBin at he
  split at he
  · cases hu; cases hv; exact plain_int t x y op _ _ _ _ he hc
  · cases hu; cases hv; exact plain_str t x y op _ _ he hc
  · cases hu; cases hv; exact plain_bl te hte t x y op _ _ he
  · exact plain_agg te hte t x y op _ _ hu hv he
  · cases he

theorem plain_un (op : UnOp) {a : AV} {u : Value} (hu : Rd w S ρ H.length a u) {out : Out} (he : evUn op a = some out) : Plain P w S ρ H (Op.unary op u) out := by
  unfold evUn at he
  split at he
  · cases hu; have := ret_some he; subst this; exact ⟨rfl, _, rfl, .bool _ _⟩
  · cases hu; have := ret_some he; subst this; exact ⟨rfl, _, rfl, .int _ _ _⟩
  · cases he

theorem plain_field {te : TE} (hte : TEok P te) (t : TypeId) (f : Nat) {a : AV} {u : Value} (hu : Rd w S ρ H.length a u) {out : Out} (he : evFieldT a f (te t) = some out) : Plain P w S ρ H (Instr.field t u f) out := by
  cases hi : te t with
  | none => rw [hi] at he; cases he
  | some i =>
    rw [hi] at he
    obtain ⟨inf, d, z, hf⟩ := hte.get hi
    simp only [evFieldT] at he
    obtain ⟨h1, h2⟩ := ifo_some he
    obtain ⟨fs, g, rfl, hg, hone⟩ := hf.flds f (lenLe_le h1)
    cases hu with
    | agg _ cs vs hl hv1 hr =>
      simp only [evField] at h2
      obtain ⟨h3, h4⟩ := ifo_some h2
      have hle := lenLe_le h3
      have := ret_some h4; subst this
      unfold fOne at hone
      cases hgi : P.info? g.type with
      | none => simp [hgi] at hone
      | some gi =>
        cases hgu : P.underlying g.type with
        | none => simp [hgi, hgu] at hone
        | some gd =>
          simp only [hgi, hgu, Bool.and_eq_true, beq_iff_eq, decide_eq_true_eq, Bool.or_eq_true] at hone
          obtain ⟨⟨⟨⟨o1, o2⟩, o3⟩, o4⟩, o5⟩ := hone
          have hagg : (isAgg g.type).run P w = .ok (isAggD gd) w := by
            unfold isAgg
            rw [Sem.run_bind, run_underlying hgu]
            cases gd <;> rfl
          have hsz : (sizeOf g.type).run P w = .ok gi.size w := by simp [sizeOf, typeInfo, hgi]
          have hrun : (part g.type vs.toArray g.offset).run P w = .ok (if (i.fields.getD f (0, 0, false)).2.2 then .agg ((vs.drop (i.fields.getD f (0, 0, false)).1).take (i.fields.getD f (0, 0, false)).2.1).toArray else ((vs.drop (i.fields.getD f (0, 0, false)).1).take (i.fields.getD f (0, 0, false)).2.1).getD 0 undef) w := by
            unfold part
            rw [Sem.run_bind, hagg, ← o4]
            cases hb : isAggD gd with
            | true =>
              simp only [Result.andThen_ok, if_true, Sem.run_bind, hsz, Sem.run_pure, o1, o2]
              congr 2
              apply Array.ext'
              rw [Array.toList_extract, List.extract_eq_take_drop]
              simp
            | false =>
              have : (i.fields.getD f (0, 0, false)).2.1 = 1 := by
                rcases o5 with o5 | o5
                · rw [← o4, hb] at o5; cases o5
                · exact o5
              rw [this] at hle ⊢
              have hlt : (i.fields.getD f (0, 0, false)).1 < vs.length := by omega
              have hget : vs.toArray[g.offset]? = some (vs[(i.fields.getD f (0, 0, false)).1]) := by
                rw [o1, List.getElem?_toArray, List.getElem?_eq_getElem hlt]
              simp only [Result.andThen_ok, Bool.false_eq_true, if_false, hget, Sem.run_pure]
              congr 1
              have h0 : ((vs.drop (i.fields.getD f (0, 0, false)).1).take 1)[0]? = some vs[(i.fields.getD f (0, 0, false)).1] := by
                rw [List.getElem?_take, if_pos Nat.one_pos, List.getElem?_drop]
                exact List.getElem?_eq_getElem hlt
              show _ = ((List.take 1 (List.drop (i.fields.getD f (0, 0, false)).1 vs))[0]?).getD undef
              rw [h0]
              rfl
          refine ⟨rfl, _, ?_, mkVal_rd (cells := (cs.drop (i.fields.getD f (0, 0, false)).1).take (i.fields.getD f (0, 0, false)).2.1) (vs := (vs.drop (i.fields.getD f (0, 0, false)).1).take (i.fields.getD f (0, 0, false)).2.1) ?_ ?_ ?_ ?_⟩
          · unfold Instr.field
            rw [Sem.run_bind, run_underlying hf.und]
            simp only [Result.andThen_ok, hg]
            simpa [asAgg] using hrun
          · simp [hl]
          · intro v hv
            exact hv1 v (List.mem_of_mem_drop (List.mem_of_mem_take hv))
          · intro j a v ha hv
            rw [List.getElem?_take] at ha hv
            split at ha
            · rename_i hj
              rw [if_pos hj] at hv
              rw [List.getElem?_drop] at ha hv
              exact hr _ a v ha hv
            · cases ha
          · intro hb
            have : (i.fields.getD f (0, 0, false)).2.1 = 1 := by
              rcases o5 with o5 | o5
              · rw [hb] at o5; cases o5
              · exact o5
            rw [List.length_take, List.length_drop]
            omega
    | _ => cases h2

theorem plain_fieldAddr {te : TE} (hte : TEok P te) (t : TypeId) (f : Nat) {a : AV} {u : Value} (hu : Rd w S ρ H.length a u) {out : Out} (he : evFieldAddrT a f (te t) = some out) : Plain P w S ρ H (Instr.fieldAt t u f) out := by
  cases hi : te t with
  | none => rw [hi] at he; cases he
  | some i =>
    rw [hi] at he
    obtain ⟨inf, d, z, hf⟩ := hte.get hi
    simp only [evFieldAddrT] at he
    obtain ⟨h1, h2⟩ := ifo_some he
    obtain ⟨fs, g, rfl, hg, hone⟩ := hf.flds f (lenLe_le h1)
    unfold fOne at hone
    cases hgi : P.info? g.type with
    | none => simp [hgi] at hone
    | some gi =>
      cases hgu : P.underlying g.type with
      | none => simp [hgi, hgu] at hone
      | some gd =>
        simp only [hgi, hgu, Bool.and_eq_true, beq_iff_eq, decide_eq_true_eq, Bool.or_eq_true] at hone
        obtain ⟨⟨⟨⟨o1, o2⟩, o3⟩, o4⟩, o5⟩ := hone
        have hsz : (sizeOf g.type).run P w = .ok gi.size w := by simp [sizeOf, typeInfo, hgi]
        have hrun : ∀ A : Addr, (Instr.fieldAt t (.pointer (some A)) f).run P w = .ok (.pointer (some (A.add (i.fields.getD f (0, 0, false)).1))) w := by
          intro A
          unfold Instr.fieldAt
          rw [Sem.run_bind, run_underlying hf.und]
          simp [hg, Instr.sureAddr, fieldPlace, hsz, show ¬ gi.size = 0 by omega, o1]
        cases hu with
        | ptr _ p off A hp hv h =>
          have := ret_some h2; subst this
          refine ⟨rfl, _, hrun A, .ptr _ _ _ _ hp hv (fun h' => ?_)⟩
          rw [h h', Addr.add_lit]
        | eptr _ p ver j k A hp hv h =>
          have := ret_some h2; subst this
          refine ⟨rfl, _, hrun A, .eptr _ _ _ _ _ _ hp hv (fun h' hlt => ?_)⟩
          rw [h h' hlt, Addr.add_lit, Nat.add_assoc]
        | rptr _ sz es j k A e cell he' hl hcell h =>
          have := ret_some h2; subst this
          refine ⟨rfl, _, hrun A, .rptr _ sz es j _ _ e cell he' hl (fun r h3 h4 => ?_) h⟩
          obtain ⟨c1, c2, c3⟩ := hcell r (by omega) h4
          refine ⟨by rw [Addr.add_block]; exact c1, ?_, c3⟩
          rw [Addr.add_add, ← c2]
          congr 2
          omega
        | _ => cases h2

theorem plain_extract (j : Nat) {a : AV} {u : Value} (hu : Rd w S ρ H.length a u) {out : Out} (he : evExtract j a = some out) : Plain P w S ρ H (Instr.extract u j) out := by
  unfold evExtract at he
  split at he
  · cases hu with
    | tup _ cs vs hl h =>
      obtain ⟨h1, h2⟩ := ifo_some he
      have hlt := lenLe_le h1
      have := ret_some h2; subst this
      have hj : j < vs.length := by omega
      refine ⟨rfl, vs[j], ?_, ?_⟩
      · simp [Instr.extract, hj]
      · exact h j _ _ (by rw [List.getD_eq_getElem?_getD, List.getElem?_eq_getElem (show j < _ by omega)]; rfl) (List.getElem?_eq_getElem hj)
  · cases he

theorem esz1_get (hm : RH w S ρ H) {q esz : Nat} (h : esz1 esz (H.getD q .none) = true) : (ρ q).sz = esz := by
  cases hq : H.getD q .none with
  | none => rw [hq] at h; cases h
  | var => rw [hq] at h; cases h
  | arr cl v sz cap es =>
    rw [hq] at h
    have := hm.ent q _ (getD_some hq (by simp))
    rw [this.2.2.1]
    exact eqb_eq h

theorem elemI_some {te : TE} {o : Option TI} {i : TI} (h : elemI te o = some i) : ∃ j e, o = some j ∧ j.kind = .slice e ∧ te e = some i := by
  cases o with
  | none => cases h
  | some j =>
    simp only [elemI, elemK] at h
    split at h
    · rename_i e hk
      exact ⟨j, e, rfl, hk, h⟩
    · cases h

theorem plain_indexAddr {te : TE} (hte : TEok P te) (hm : RH w S ρ H) (t : TypeId) {a b : AV} {u v : Value} (hu : Rd w S ρ H.length a u) (hv : Rd w S ρ H.length b v) {out : Out} (he : evIndexAddrT H b a (elemI te (te t)) = some out) (hc : condK out.c True) :
    Plain P w S ρ H (Instr.indexAt t u v) out := by
  cases hi : elemI te (te t) with
  | none => rw [hi] at he; cases he
  | some i =>
    rw [hi] at he
    obtain ⟨j, e, h1, h2, h3⟩ := elemI_some hi
    obtain ⟨inf, d, z, hf⟩ := hte.get h1
    obtain ⟨inf', d', z', hf'⟩ := hte.get h3
    have hd := hf.kslice h2
    subst hd
    have hel : P.elem t = e := by simp [Program.elem, hf.und]
    have hut : P.underlying t = some (.slice (P.elem t)) := by rw [hel]; exact hf.und
    simp only [evIndexAddrT] at he
    have hrun : ∀ (A : Addr) (len cap : Nat) (k : IntKind) (n : Int), 0 ≤ n → n < len → (Instr.indexAt t (.slice (some A) len cap) (.int k n)).run P w = .ok (.pointer (some (A.add (n.toNat * i.size)))) w := by
      intro A len cap k n h0 hlt
      rw [run_indexAt_slice w t A len cap k n hut, if_pos ⟨h0, hlt⟩, hel, hf'.run_size]
      rfl
    unfold evIndexAddr at he
    split at he
    · rename_i k n sz fr es
      cases hv
      obtain ⟨h4, h5⟩ := ifo_some he
      have := eqb_eq h4; subst this
      have := retc_some h5; subst this
      simp only [condK] at hc
      obtain ⟨⟨h0, hlt⟩, _⟩ := hc
      cases hu with
      | sl _ _ _ _ A len cap cell hl hc' hx hfr hsz hcell hA h =>
        have hlen : n < len := by rw [← hl]; exact hlt
        have hAs := hA (by omega)
        cases A with
        | none => cases hAs
        | some A =>
          have hn : n.toNat < es.length := by omega
          refine ⟨rfl, _, hrun A len cap k n h0 hlen, .rptr _ _ es _ _ _ es[n.toNat] (fun k => cell n.toNat k) (List.getElem?_eq_getElem hn) (hsz _ (List.getElem_mem hn)) (fun r _ hr => ?_) (fun r x hx' => h n.toNat r _ x (List.getElem?_eq_getElem hn) hx')⟩
          obtain ⟨a, c1, c2, c3, c4⟩ := hcell n.toNat r (by omega) hr
          cases c1
          refine ⟨by rw [Addr.add_block]; exact c2, ?_, c4⟩
          rw [Addr.add_add]
          exact c3
    · rename_i k n q ver len
      cases hv
      obtain ⟨h4, h5⟩ := ifo_some he
      have hsz := esz1_get hm h4
      have := retc_some h5; subst this
      simp only [condK] at hc
      obtain ⟨⟨h0, hlt⟩, _⟩ := hc
      cases hu with
      | own _ _ _ _ A cap hp hver hcp hA h =>
        have hAs := hA (by omega)
        cases A with
        | none => cases hAs
        | some A =>
          refine ⟨rfl, _, hrun A len cap k n h0 hlt, .eptr _ _ _ _ _ _ hp hver (fun h' hlt' => ?_)⟩
          obtain ⟨k1, k2⟩ := h h'
          have := k2 (by omega)
          cases this
          rw [Addr.add_lit, hsz]
          simp
    · rename_i k n q ver off len
      cases hv
      obtain ⟨h4, h5⟩ := ifo_some he
      have hsz := esz1_get hm h4
      have := retc_some h5; subst this
      simp only [condK] at hc
      obtain ⟨⟨h0, hlt⟩, _⟩ := hc
      cases hu with
      | osub _ _ _ _ _ A cap hp hver hcp hA h =>
        have hAs := hA (by omega)
        cases A with
        | none => cases hAs
        | some A =>
          refine ⟨rfl, _, hrun A len cap k n h0 hlt, .eptr _ _ _ _ _ _ hp hver (fun h' hlt' => ?_)⟩
          obtain ⟨k1, k2⟩ := h h'
          have := k2 (by omega)
          cases this
          rw [Addr.add_lit, hsz, Nat.add_mul]
          simp
    · cases he

theorem plain_index {te : TE} (hte : TEok P te) (t : TypeId) {a b : AV} {u v : Value} (hu : Rd w S ρ H.length a u) (hv : Rd w S ρ H.length b v) {out : Out} (he : evIndexT b a (te t) = some out) (hc : condK out.c True) :
    Plain P w S ρ H (Instr.index t u v) out := by
  cases hi : te t with
  | none => rw [hi] at he; cases he
  | some i =>
    rw [hi] at he
    obtain ⟨inf, d, z, hf⟩ := hte.get hi
    simp only [evIndexT] at he
    cases hk : i.kind <;> rw [hk] at he <;> try (cases he; done)
    have hd := hf.kstr hk
    subst hd
    simp only [indexK] at he
    unfold evIndex at he
    split at he
    · rename_i k n s
      cases hu; cases hv
      have := retc_some he; subst this
      simp only [condK] at hc
      obtain ⟨⟨h0, hlt⟩, _⟩ := hc
      have hn : n.toNat < s.size := by omega
      refine ⟨rfl, _, ?_, .int _ _ _⟩
      have hg : s[n.toNat]? = some (s.data.toList.getD n.toNat 0) := by
        have h9 : n.toNat < s.data.toList.length := by rw [Array.length_toList]; exact hn
        rw [List.getD_eq_getElem?_getD, List.getElem?_eq_getElem h9]
        rw [getElem?_pos s n.toNat hn]
        rfl
      simp only [Instr.index, asIntOf, Sem.run_bind, Sem.run_pure, Result.andThen_ok, run_underlying hf.und, h0, if_true, hg, sb]
    · cases he

end
end Go.Rf
end
/-
  THE SYMBOLIC EXECUTOR, part 9: conversions, slicing, what is newly made.
-/
section
set_option linter.unusedVariables false
set_option linter.unusedSimpArgs false
namespace Go.Rf

section
variable {P : Program} {w : World} {S : Nat → Prop} {ρ : Reg} {H : List Ent}

theorem plain_len {te : TE} (hte : TEok P te) (t ty : TypeId) {a : AV} {u : Value} (hu : Rd w S ρ H.length a u) {out : Out} (he : evLenT a (te t) = some out) : Plain P w S ρ H (Builtin.len_ #[t] ty #[u]) out := by
  cases hi : te t with
  | none => rw [hi] at he; cases he
  | some i =>
    rw [hi] at he
    obtain ⟨inf, d, z, hf⟩ := hte.get hi
    simp only [evLenT] at he
    unfold evLen at he
    have hsl : ∀ e, i.kind = .slice e → ∀ A n c, (Builtin.len_ #[t] ty #[.slice A n c]).run P w = .ok (goInt n) w := by
      intro e hk A n c
      have := hf.kslice hk; subst this
      simp [Builtin.len_, run_underlying hf.und]
    split at he
    · rename_i e sz fr es hk
      have := ret_some he; subst this
      cases hu with
      | sl _ _ _ _ A len cap cell hl => exact ⟨rfl, _, hsl e hk _ _ _, by rw [hl]; exact .int _ _ _⟩
    · rename_i e q v len hk
      have := ret_some he; subst this
      cases hu with
      | own => exact ⟨rfl, _, hsl e hk _ _ _, .int _ _ _⟩
    · rename_i e q v o len hk
      have := ret_some he; subst this
      cases hu with
      | osub => exact ⟨rfl, _, hsl e hk _ _ _, .int _ _ _⟩
    · rename_i s hk
      have := ret_some he; subst this
      have := hf.kstr hk; subst this
      cases hu
      exact ⟨rfl, _, by simp [Builtin.len_, run_underlying hf.und, goInt], .int _ _ _⟩
    · cases he

theorem plain_max (ts : Array TypeId) (ty : TypeId) {a b : AV} {u v : Value} (hu : Rd w S ρ H.length a u) (hv : Rd w S ρ H.length b v) {out : Out} (he : evMax a b = some out) : Plain P w S ρ H (Builtin.max_ ts ty #[u, v]) out := by
  unfold evMax at he
  split at he
  · obtain ⟨h1, h2⟩ := ifo_some he
    have := kn_eq h1; subst this
    have := ret_some h2; subst this
    cases hu; cases hv
    exact ⟨rfl, _, run_max_int2 w ts ty _ _ _ _, .int _ _ _⟩
  · cases he
theorem plain_min (ts : Array TypeId) (ty : TypeId) {a b : AV} {u v : Value} (hu : Rd w S ρ H.length a u) (hv : Rd w S ρ H.length b v) {out : Out} (he : evMin a b = some out) : Plain P w S ρ H (Builtin.min_ ts ty #[u, v]) out := by
  unfold evMin at he
  split at he
  · obtain ⟨h1, h2⟩ := ifo_some he
    have := kn_eq h1; subst this
    have := ret_some h2; subst this
    cases hu; cases hv
    exact ⟨rfl, _, run_min_int2 w ts ty _ _ _ _, .int _ _ _⟩
  · cases he

theorem isU8_some {P : Program} {te : TE} (hte : TEok P te) {e : TypeId} (h : isU8 (te e) = true) : ∃ i inf z, te e = some i ∧ TF P e i inf (.int .u8) z := by
  cases hi : te e with
  | none => rw [hi] at h; cases h
  | some i =>
    rw [hi] at h
    obtain ⟨inf, d, z, hf⟩ := hte.get hi
    simp only [isU8] at h
    cases hk : i.kind <;> rw [hk] at h <;> try (cases h; done)
    rename_i k
    simp only [isU8K] at h
    have : k = .u8 := kn_eq h
    subst this
    have := hf.kint hk; subst this
    exact ⟨i, inf, z, rfl, hf⟩

theorem bytes_values : ∀ (es : List (List AV)), (∀ e ∈ es, isByte e) → ∃ ns : List Int, es = ns.map (fun n => [AV.int .u8 n]) ∧ strOf es = ⟨(ns.map fun n => UInt8.ofNat n.toNat).toArray⟩
  | [], _ => ⟨[], rfl, rfl⟩
  | e :: es, h => by
    obtain ⟨ns, h1, h2⟩ := bytes_values es (fun e he => h e (by simp [he]))
    have hb : isByteB e = true := h e (by simp)
    unfold isByteB at hb
    split at hb
    · rename_i n
      refine ⟨n :: ns, by simp [← h1], ?_⟩
      simp only [strOf, List.map_cons, byteOf] at h2 ⊢
      injection h2 with h2
      congr 1
      apply Array.ext'
      have := congrArg Array.toList h2
      simp only [List.map_cons]
      simpa using this
    · cases hb

theorem bytesAV_get (s : ByteArray) (i : Nat) : (bytesAV s)[i]? = (s.data.toList[i]?).map fun b => [AV.int .u8 (b.toNat : Int)] := by simp [bytesAV]
theorem bytesAV_rows (s : ByteArray) (n : Nat) : RowsRd w S ρ n 1 (bytesAV s) (s.data.toList.map fun b => Value.int .u8 (b.toNat : Int)) where
  len := by simp [bytesAV]
  one := by intro v hv; simp at hv; obtain ⟨b, _, rfl⟩ := hv; rfl
  row := by intro e he; simp [bytesAV] at he; obtain ⟨b, _, rfl⟩ := he; rfl
  rd := by
    intro i k e a v he ha hv
    rw [bytesAV_get] at he
    cases hb : s.data.toList[i]? with
    | none => rw [hb] at he; cases he
    | some b =>
      rw [hb] at he
      cases he
      have : k = 0 := by
        have := (List.getElem?_eq_some_iff.1 ha).1
        simp at this
        exact this
      subst this
      simp at ha
      subst ha
      rw [Nat.mul_one, Nat.add_zero, List.getElem?_map, hb] at hv
      cases hv
      exact .int _ _ _

theorem conv_step {te : TE} (hte : TEok P te) (hm : RH w S ρ H) (src dst : TypeId) {a : AV} {u : Value} (hu : Rd w S ρ H.length a u) {out : Out} (he : evConvT te a (te src) (te dst) = some out) (hc : condK out.c True) :
    Step P w S ρ H (convert src dst u) out.v (putH H out.w) := by
  cases hi : te src with
  | none => rw [hi] at he; cases he
  | some i =>
    cases hj : te dst with
    | none => rw [hi, hj] at he; cases he
    | some j =>
      rw [hi, hj] at he
      obtain ⟨inf, d, z, hf⟩ := hte.get hi
      obtain ⟨inf', d', z', hf'⟩ := hte.get hj
      simp only [evConvT] at he
      unfold evConv at he
      split at he
      · rename_i k l n hk
        have := ret_some he; subst this
        have := hf'.kint hk; subst this
        cases hu
        refine Step.pure hm ?_ (.int _ _ _)
        simp [convert, run_underlying hf.und, run_underlying hf'.und, Conv.intToInt]
      · rename_i s hk
        have := ret_some he; subst this
        have := hf'.kstr hk; subst this
        cases hu
        refine Step.pure hm ?_ (.str _ _)
        simp [convert, run_underlying hf.und, run_underlying hf'.und]
      · rename_i e sz fr es hk1 hk2
        obtain ⟨h1, h2⟩ := ifo_some he
        obtain ⟨h3, h4⟩ := andB_true h1
        have := eqb_eq h4; subst this
        have := retc_some h2; subst this
        simp only [condK] at hc
        have hb := hc.1
        have := hf'.kstr hk2; subst this
        have := hf.kslice hk1; subst this
        obtain ⟨ie, infe, ze, _, hfe⟩ := isU8_some hte h3
        obtain ⟨ns, hns, hstr⟩ := bytes_values es hb
        cases hu with
        | sl _ _ _ _ A len cap cell hl hc' hx hfr hsz hcell hA h =>
          refine Step.pure hm ?_ (.str _ _)
          rw [run_convert_bytes_string w src dst e A len cap hf.und hfe.und hf'.und]
          cases A with
          | none =>
            have : len = 0 := by
              rcases Nat.eq_zero_or_pos len with h0 | h0
              · exact h0
              · cases hA h0
            subst this
            have : es = [] := List.eq_nil_of_length_eq_zero hl
            subst this
            rfl
          | some A =>
            have hcv : ∀ (k : Nat) (n : Int), ns[k]? = some n → w.cell? (A.add k) = some (.int .u8 n) := by
              intro k n hn
              have he' : es[k]? = some [AV.int .u8 n] := by rw [hns, List.getElem?_map, hn]; rfl
              have hlt := (List.getElem?_eq_some_iff.1 he').1
              obtain ⟨a, c1, c2, c3, c4⟩ := hcell k 0 (by omega) Nat.one_pos
              cases c1
              have hr := h k 0 _ _ he' rfl
              generalize cell k 0 = c at c3 hr
              cases hr
              simpa using c3
            have hll : (loadCells A len).run P w = .ok (ns.map (Value.int .u8)).toArray w := by
              have hlen : (ns.map (Value.int .u8)).length = len := by rw [← hl, hns]; simp
              have := run_loadCells_list (P := P) w A (ns.map (Value.int .u8)) (fun k v hv => by
                rw [List.getElem?_map] at hv
                cases hn : ns[k]? with
                | none => rw [hn] at hv; cases hv
                | some n => rw [hn] at hv; cases hv; exact hcv k n hn)
              rwa [hlen] at this
            rw [run_bytesToString w A len cap ns hll, foldl_push_bytes, hstr]
            simp [ByteArray.empty, ByteArray.emptyWithCapacity]
            rfl
      · rename_i k e s hk
        obtain ⟨h1, h2⟩ := ifo_some he
        have := retc_some h2; subst this
        simp only [condK] at hc
        have := hf'.kslice hk; subst this
        obtain ⟨ie, infe, ze, _, hfe⟩ := isU8_some hte h1
        cases hu
        have hmx : s.size ≤ maxLen := by simp only [maxLen]; omega
        have hlen : (bytesAV s).length = s.size := by unfold bytesAV; rw [List.length_map, Array.length_toList]; rfl
        have hrun := Go.Lib.run_convert_string_bytes (P := P) w src dst e s hf.und hf'.und hfe.und
        rw [← hlen] at hrun
        refine Step.row hm (Go.Lib.bytesWorld w e s) false hrun ?_ ?_ ?_ (Go.Lib.bytesWorld_size w e s) (fun k hk => Go.Lib.bytesWorld_at_old w e s k hk) (Go.Lib.bytesWorld_at_new w e s) (vs := s.data.toList.map fun b => Value.int .u8 (b.toNat : Int)) ?_ (bytesAV_rows s 0) (by rw [hlen]; exact grownCap_ge w s.size 0 e) (by rw [hlen]; exact grownCap_le_maxLen w s.size 0 e hmx) (by simp)
        · unfold Go.Lib.bytesWorld World.freeze; split <;> rfl
        · unfold Go.Lib.bytesWorld World.freeze; split <;> rfl
        · unfold Go.Lib.bytesWorld World.freeze; split <;> rfl
        · intro j v hv
          rw [List.getElem?_map] at hv
          cases hb : s.data.toList[j]? with
          | none => rw [hb] at hv; cases hv
          | some b =>
            rw [hb] at hv
            cases hv
            have hj := (List.getElem?_eq_some_iff.1 hb).1
            simp only [Array.length_toList] at hj
            unfold Go.Lib.bytesCells
            rw [Array.getElem?_append_left (by simpa using hj), Array.getElem?_map]
            rw [Array.getElem?_toList] at hb
            rw [hb]
            rfl
      · cases he

/-! ### Slicing -/
/-- What an operand of a slicing is. -/
def OptRd (l : Option Int) (v : Option Value) : Prop :=
  match l, v with
  | none, none => True
  | some n, some u => ∃ k, u = .int k n
  | _, _ => False

theorem run_slice_lh' (t : TypeId) (A : Option Addr) (len cap : Nat) (ht : P.underlying t = some (.slice (P.elem t))) {s : Nat} (hs : ∀ w, (sizeOf (P.elem t)).run P w = .ok s w) (l h : Option Int) (vl vh : Option Value) (hl : OptRd l vl) (hh : OptRd h vh)
    (h0 : 0 ≤ slLo l) (h1 : slLo l ≤ slHi len h) (h2 : slHi len h ≤ cap) :
    (Instr.sliceAt t (.slice A len cap) vl vh none).run P w = .ok (sliced A (slLo l).toNat (slHi len h).toNat cap s) w := by
  rw [run_sliceAt_slice w t _ _ _ _ ht]
  cases l with
  | none =>
    cases vl with
    | some => exact hl.elim
    | none =>
      cases h with
      | none =>
        cases vh with
        | some => exact hh.elim
        | none => simp only [slLo, slHi] at *; rw [run_slice_all w t A len cap ht, hs]; simp
      | some h =>
        cases vh with
        | none => exact hh.elim
        | some u => obtain ⟨k, rfl⟩ := hh; simp only [slLo, slHi] at *; rw [run_slice_h w t A len cap ht k h (by omega) h2, hs]; simp
  | some l =>
    cases vl with
    | none => exact hl.elim
    | some u =>
      obtain ⟨k, rfl⟩ := hl
      cases h with
      | none =>
        cases vh with
        | some => exact hh.elim
        | none => simp only [slLo, slHi] at *; rw [run_slice_l w t A len cap ht k l (by omega) (by omega), hs]; simp
      | some h =>
        cases vh with
        | none => exact hh.elim
        | some u => obtain ⟨k', rfl⟩ := hh; simp only [slLo, slHi] at *; rw [run_slice_lh w t A len cap ht k k' l h (by omega) (by omega) h2, hs]; simp

theorem run_slice_m' (t : TypeId) (A : Option Addr) (len cap : Nat) (ht : P.underlying t = some (.slice (P.elem t))) {s : Nat} (hs : ∀ w, (sizeOf (P.elem t)).run P w = .ok s w) (l : Option Int) (h m : Int) (vl vh vm : Option Value) (hl : OptRd l vl) (hh : OptRd (some h) vh) (hm' : OptRd (some m) vm)
    (h0 : 0 ≤ slLo l) (h1 : slLo l ≤ h) (h2 : h ≤ m) (h3 : m ≤ cap) :
    (Instr.sliceAt t (.slice A len cap) vl vh vm).run P w = .ok (sliced A (slLo l).toNat h.toNat m.toNat s) w := by
  rw [run_sliceAt_slice w t _ _ _ _ ht]
  cases vh with
  | none => exact hh.elim
  | some u =>
    obtain ⟨kh, rfl⟩ := hh
    cases vm with
    | none => exact hm'.elim
    | some u =>
      obtain ⟨km, rfl⟩ := hm'
      cases l with
      | none =>
        cases vl with
        | some => exact hl.elim
        | none => simp only [slLo] at *; rw [run_slice_hm w t A len cap ht kh km h m (by omega) h2 h3, hs]; simp
      | some l =>
        cases vl with
        | none => exact hl.elim
        | some u => obtain ⟨k, rfl⟩ := hl; simp only [slLo] at *; rw [run_slice_lhm w t A len cap ht k kh km l h m (by omega) (by omega) h2 h3, hs]; simp

/-- A part of a row told by value. -/
theorem Rd.part {sz : Nat} {fr : Bool} {es : List (List AV)} {A : Option Addr} {len cap n : Nat} (hv : Rd w S ρ n (.sl sz fr es) (.slice A len cap)) (l h m : Nat) (hlh : l ≤ h) (hhl : h ≤ len) (hhm : h ≤ m) (hm : m ≤ cap) (fr' : Bool) (hf : fr' = true → m = h) :
    Rd w S ρ n (.sl sz fr' ((es.drop l).take (h - l))) (sliced A l h m sz) := by
  cases hv with
  | sl _ _ _ _ _ _ _ cell hl hc' hx hfr hsz hcell hA hr =>
    have hlen : ((es.drop l).take (h - l)).length = h - l := by simp; omega
    refine .sl _ sz fr' _ _ (h - l) (m - l) (fun i k => cell (l + i) k) hlen (by omega) (by omega) (fun hf' => by rw [hf hf']) (fun e he => hsz e (List.mem_of_mem_drop (List.mem_of_mem_take he))) ?_ ?_ ?_
    · intro i k hi hk
      obtain ⟨a, c1, c2, c3, c4⟩ := hcell (l + i) k (by omega) hk
      subst c1
      rw [if_neg (by omega)]
      refine ⟨a.add (l * sz), rfl, by rw [Addr.add_block]; exact c2, ?_, c4⟩
      rw [Addr.add_add, ← c3]
      congr 2
      rw [Nat.add_mul]
      omega
    · intro h0
      have := hA (by omega)
      cases A with
      | none => cases this
      | some a => split <;> rfl
    · intro i k e a he ha
      rw [List.getElem?_take] at he
      split at he
      · rw [List.getElem?_drop] at he
        exact hr (l + i) k e a he ha
      · cases he

theorem optInt_rd {s : St} {a : Act} (h : RS w S ρ s a) (o : Option Operand) {l : Option Int} (hl : optInt (ev s.T) o = some l) : OptRd l (o.map a.eval) := by
  cases o with
  | none => simp only [optInt] at hl; cases hl; trivial
  | some x =>
    simp only [optInt] at hl
    have hr := RS.ev h x
    simp only [Option.map_some]
    generalize a.eval x = u at hr
    cases hv : ev s.T x <;> rw [hv] at hl hr <;> try (cases hl; done)
    cases hl
    cases hr
    exact ⟨_, rfl⟩

theorem sameConst_eq {T : List AV} {hi mx : Option Operand} {h m : Int} (hs : sameConst hi mx = true) (h1 : optInt (ev T) hi = some (some h)) (h2 : optInt (ev T) mx = some (some m)) : h = m := by
  unfold sameConst at hs
  split at hs
  · have := eqb_eq hs
    subst this
    simp only [optInt, ev, avOf, optV, Option.some.injEq] at h1 h2
    rw [← h1, ← h2]
  · cases hs

theorem lim_cap (hm : RH w S ρ H) {q ver off len cap : Nat} {A : Option Addr} (hcp : len ≤ cap) (hA : 0 < len → A.isSome = true) (hr : ver = (ρ q).ver → off + cap = (ρ q).cap ∧ (0 < cap → A = some ⟨(ρ q).blk, off * (ρ q).sz, none⟩)) :
    limE ver off len (H.getD q .none) ≤ cap ∧ (0 < limE ver off len (H.getD q .none) → A.isSome = true) := by
  cases hq : H.getD q .none with
  | none => exact ⟨hcp, hA⟩
  | var => exact ⟨hcp, hA⟩
  | arr cl v sz c es =>
    simp only [limE]
    cases hb : Nat.beq v ver with
    | false => exact ⟨hcp, hA⟩
    | true =>
      have hv : v = ver := Nat.eq_of_beq_eq_true hb
      subst hv
      have hget := getD_some hq (by simp)
      obtain ⟨e1, e2, e3, e4, e5, e6, e7, e8, e9⟩ := hm.ent q _ hget
      obtain ⟨k1, k2⟩ := hr e1.symm
      have hle : limE.limB len (es.length - off) true ≤ cap := by
        simp only [limE.limB]
        split <;> omega
      exact ⟨hle, fun h => by rw [k2 (by omega)]; rfl⟩

theorem plain_slice {te : TE} (hte : TEok P te) {s : St} {a : Act} (hs : RS w S ρ s a) (t : TypeId) (x : Operand) (lo hi mx : Option Operand) {out : Out} (he : evSliceT te s.H (ev s.T) (ev s.T x) lo hi mx (te t) = some out) (hc : condK out.c True) :
    Plain P w S ρ s.H (Instr.sliceAt t (a.eval x) (lo.map a.eval) (hi.map a.eval) (mx.map a.eval)) out := by
  cases hi' : te t with
  | none => rw [hi'] at he; cases he
  | some i =>
    rw [hi'] at he
    obtain ⟨inf, d, z, hf⟩ := hte.get hi'
    simp only [evSliceT] at he
    have hu := RS.ev hs x
    generalize hex : ev s.T x = ax at he hu
    generalize hvx : a.eval x = vx at hu
    cases hk : i.kind <;> rw [hk] at he <;> try (cases he; done)
    case str =>
      have hd := hf.kstr hk
      subst hd
      simp only [sliceK] at he
      cases ax <;> simp only [evSliceS] at he <;> try (cases he; done)
      rename_i st
      cases hu
      cases hol : optInt (ev s.T) lo with
      | none => rw [hol] at he; cases he
      | some l =>
        cases hoh : optInt (ev s.T) hi with
        | none => rw [hol, hoh] at he; cases he
        | some h =>
          cases hom : optInt (ev s.T) mx with
          | none => rw [hol, hoh, hom] at he; cases he
          | some m =>
            rw [hol, hoh, hom] at he
            cases m with
            | some m => cases he
            | none =>
              have rl := optInt_rd hs lo hol
              have rh := optInt_rd hs hi hoh
              have rm := optInt_rd hs mx hom
              cases hmx : mx with
              | some y => rw [hmx] at rm; exact rm.elim
              | none =>
                have := retc_some he; subst this
                simp only [condK] at hc
                obtain ⟨⟨c0, c1, c2⟩, _⟩ := hc
                refine ⟨rfl, _, ?_, .str _ _⟩
                rw [run_sliceAt_string w t _ _ _ _ hf.und]
                generalize lo.map a.eval = vl at rl
                generalize hi.map a.eval = vh at rh
                have hx : ∀ (k : IntKind) (i : Int) (y : Nat) (c : BoundsCode), 0 ≤ i → i ≤ y → (Instr.sliceBound (.int k i) y c).run P w = .ok i.toNat w := fun k i y c a b => run_sliceBound w k i y c a b
                cases l with
                | none =>
                  cases vl with
                  | some => exact rl.elim
                  | none => cases h with
                    | none =>
                      cases vh with
                      | some => exact rh.elim
                      | none => simp [Instr.slice, run_underlying hf.und, Instr.sliceBounds, slLo, slHi]
                    | some h =>
                      cases vh with
                      | none => exact rh.elim
                      | some u =>
                        obtain ⟨k, rfl⟩ := rh
                        simp only [slLo, slHi] at *
                        simp [Instr.slice, run_underlying hf.und, Instr.sliceBounds, hx _ h st.size _ (by omega) (by omega)]
                | some l =>
                  cases vl with
                  | none => exact rl.elim
                  | some u =>
                    obtain ⟨k, rfl⟩ := rl
                    cases h with
                    | none =>
                      cases vh with
                      | some => exact rh.elim
                      | none =>
                        simp only [slLo, slHi] at *
                        simp [Instr.slice, run_underlying hf.und, Instr.sliceBounds, hx _ l st.size _ (by omega) (by omega)]
                    | some h =>
                      cases vh with
                      | none => exact rh.elim
                      | some u =>
                        obtain ⟨k', rfl⟩ := rh
                        simp only [slLo, slHi] at *
                        simp [Instr.slice, run_underlying hf.und, Instr.sliceBounds, hx _ h st.size _ (by omega) (by omega), hx _ l h.toNat _ (by omega) (by omega)]
    case slice e =>
      have hd := hf.kslice hk
      subst hd
      have hel : P.elem t = e := by simp [Program.elem, hf.und]
      have hut : P.underlying t = some (.slice (P.elem t)) := by rw [hel]; exact hf.und
      simp only [sliceK] at he
      cases hie : te e with
      | none => rw [hie] at he; cases he
      | some ie =>
        rw [hie] at he
        obtain ⟨inf', d', z', hf'⟩ := hte.get hie
        simp only [sliceE] at he
        have hsize : ∀ w, (sizeOf (P.elem t)).run P w = .ok ie.size w := fun w => by rw [hel]; exact hf'.run_size w
        cases hol : optInt (ev s.T) lo with
        | none => cases ax <;> simp only [evSlice, hol] at he <;> first | (cases he; done) | (have := (ifo_some he).2; cases this)
        | some l =>
          cases hoh : optInt (ev s.T) hi with
          | none => cases ax <;> simp only [evSlice, hol, hoh] at he <;> first | (cases he; done) | (have := (ifo_some he).2; cases this)
          | some h =>
            cases hom : optInt (ev s.T) mx with
            | none => cases ax <;> simp only [evSlice, hol, hoh, hom] at he <;> first | (cases he; done) | (have := (ifo_some he).2; cases this)
            | some m =>
              have rl := optInt_rd hs lo hol
              have rh := optInt_rd hs hi hoh
              have rm := optInt_rd hs mx hom
              cases ax <;> simp only [evSlice, hol, hoh, hom] at he <;> try (cases he; done)
              case sl sz fr es =>
                obtain ⟨h1, h2⟩ := ifo_some he
                have := eqb_eq h1; subst this
                cases m with
                | none =>
                  have := retc_some h2; subst this
                  simp only [condK] at hc
                  obtain ⟨⟨c0, c1, c2⟩, _⟩ := hc
                  cases hmx : mx with
                  | some y => rw [hmx] at rm; exact rm.elim
                  | none =>
                    have hu' := hu
                    cases hu with
                    | sl _ _ _ _ A len cap cell hl hc' hx hfr hsz hcell hA hr =>
                      rw [hl] at c1 c2
                      refine ⟨rfl, _, run_slice_lh' t A len cap hut hsize l h _ _ rl rh c0 c1 (by omega), ?_⟩
                      rw [show es.length = len from hl]
                      exact hu'.part _ _ _ (by omega) (by omega) (by omega) (Nat.le_refl _) false (by simp)
                | some m =>
                  cases h with
                  | none => cases h2
                  | some h =>
                    have := retc_some h2; subst this
                    simp only [condK] at hc
                    obtain ⟨⟨c0, c1, c2, c3⟩, _⟩ := hc
                    have hu' := hu
                    cases hu with
                    | sl _ _ _ _ A len cap cell hl hc' hx hfr hsz hcell hA hr =>
                      rw [hl] at c3
                      refine ⟨rfl, _, run_slice_m' t A len cap hut hsize l h m _ _ _ rl rh rm c0 c1 c2 (by omega), ?_⟩
                      exact hu'.part _ _ _ (by omega) (by omega) (by omega) (by omega) _ (fun hsc => by rw [sameConst_eq hsc hoh hom])
              case own q ver len =>
                obtain ⟨h1, h2⟩ := ifo_some he
                have hszq := esz1_get hs.mem h1
                cases hu with
                | own _ _ _ _ A cap hp hver hcp hA hr =>
                  cases m with
                  | none =>
                    cases hmx : mx with
                    | some y => rw [hmx] at rm; exact rm.elim
                    | none =>
                      cases h2
                      simp only [condK] at hc
                      obtain ⟨⟨c0, c1, c2⟩, _⟩ := hc
                      refine ⟨rfl, _, run_slice_lh' t A len cap hut hsize l h _ _ rl rh c0 c1 (by omega), ?_⟩
                      refine .osub _ _ _ _ _ _ _ hp hver (by omega) ?_ ?_
                      · intro h0
                        have := hA (by omega)
                        cases A with
                        | none => cases this
                        | some A => split <;> rfl
                      · intro hv
                        obtain ⟨k1, k2⟩ := hr hv
                        refine ⟨by omega, fun h0 => ?_⟩
                        rw [if_neg (by omega), k2 (by omega)]
                        simp only [Option.map_some, Addr.add_lit, hszq, Nat.zero_add]
                  | some m =>
                    cases h with
                    | none => cases h2
                    | some h =>
                      have := retc_some h2; subst this
                      simp only [condK] at hc
                      obtain ⟨⟨c0, c1, c2, c3⟩, _⟩ := hc
                      exact ⟨rfl, _, run_slice_m' t A len cap hut hsize l h m _ _ _ rl rh rm c0 c1 c2 (by omega), .junk _ _⟩
              case osub q ver off len =>
                obtain ⟨h1, h2⟩ := ifo_some he
                have hszq := esz1_get hs.mem h1
                cases hu with
                | osub _ _ _ _ _ A cap hp hver hcp hA hr =>
                  cases m with
                  | none =>
                    cases hmx : mx with
                    | some y => rw [hmx] at rm; exact rm.elim
                    | none =>
                      cases h2
                      simp only [condK] at hc
                      obtain ⟨⟨c0, c1, c2⟩, _⟩ := hc
                      obtain ⟨l1, l2⟩ := lim_cap hs.mem hcp hA hr
                      refine ⟨rfl, _, run_slice_lh' t A len cap hut hsize l h _ _ rl rh c0 c1 (by omega), ?_⟩
                      refine .osub _ _ _ _ _ _ _ hp hver (by omega) ?_ ?_
                      · intro h0
                        have := l2 (by omega)
                        cases A with
                        | none => cases this
                        | some A => split <;> rfl
                      · intro hv
                        obtain ⟨k1, k2⟩ := hr hv
                        refine ⟨by omega, fun h0 => ?_⟩
                        rw [if_neg (by omega), k2 (by omega)]
                        simp only [Option.map_some, Addr.add_lit, hszq]
                        rw [Nat.add_mul]
                  | some m => cases h2

end
end Go.Rf
end
/-
  THE SYMBOLIC EXECUTOR, part 10: what is newly made; append, copy, clear.
-/
section
set_option linter.unusedVariables false
set_option linter.unusedSimpArgs false
namespace Go.Rf

/-- Parts put into cells, one behind the other. -/
theorem foldl_set_toList : ∀ (vs : List Value) (k o : Nat) (cs : Array Value), o + k + vs.length ≤ cs.size →
    ((vs.zipIdx k).foldl (fun cs (c, j) => cs.setIfInBounds (o + j) c) cs).toList = cs.toList.take (o + k) ++ vs ++ cs.toList.drop (o + k + vs.length)
  | [], k, o, cs, _ => by simp
  | v :: vs, k, o, cs, h => by
    simp only [List.zipIdx_cons, List.foldl_cons]
    rw [foldl_set_toList vs (k + 1) o _ (by simp at h ⊢; omega)]
    have := list_seg_step cs.toList (o + k) v vs (by simp at h ⊢; omega)
    simpa [Array.toList_setIfInBounds, Nat.add_assoc] using this

section
variable {P : Program} {w : World} {S : Nat → Prop} {ρ : Reg} {H : List Ent}

/-! ### Structs -/
theorem places_of {P : Program} : ∀ {fs : List (Nat × Nat × Bool)} {gs : List Field}, fOK P fs gs = true → gs.mapM (fun f => (P.info? f.type).map fun i => (f.offset, i.size)) = some (fs.map fun x => (x.1, x.2.1))
  | [], [], _ => rfl
  | [], _ :: _, h => by simp [fOK] at h
  | _ :: _, [], h => by simp [fOK] at h
  | x :: fs, g :: gs, h => by
    simp only [fOK, Bool.and_eq_true] at h
    have ih := places_of h.2
    have h1 := h.1
    unfold fOne at h1
    cases hi : P.info? g.type with
    | none => simp [hi] at h1
    | some i =>
      cases hu : P.underlying g.type with
      | none => simp [hi, hu] at h1
      | some d =>
        simp only [hi, hu, Bool.and_eq_true, beq_iff_eq, decide_eq_true_eq] at h1
        obtain ⟨⟨⟨⟨o1, o2⟩, _⟩, _⟩, _⟩ := h1
        simp [List.mapM_cons, hi, ih, o1, o2]

theorem fill_struct {fields : List (Nat × Nat × Bool)} {E : Operand → AV} {ev' : Operand → Value} (hev : ∀ x, Rd w S ρ H.length (E x) (ev' x)) : ∀ (parts : List (Nat × Operand)) (cells out : List AV) (cs : Array Value), CellsRd w S ρ H.length cells cs →
    fillParts fields E parts (some cells) = some out → ∃ cs', Instr.fill (fun i => (fields.map fun x => (x.1, x.2.1))[i]?) cs (parts.map fun (i, x) => (i, ev' x)) = some cs' ∧ CellsRd w S ρ H.length out cs'
  | [], cells, out, cs, h, he => by
    simp only [fillParts, Option.some.injEq] at he
    subst he
    exact ⟨cs, rfl, h⟩
  | (i, x) :: parts, cells, out, cs, h, he => by
    simp only [fillParts] at he
    cases hc : cellsOf (E x) with
    | none =>
      rw [hc] at he
      simp only [fillPart] at he
      cases parts <;> simp [fillParts] at he
    | some as =>
      rw [hc] at he
      cases hp : fillPart fields cells i (some as) with
      | none => rw [hp] at he; cases parts <;> simp [fillParts] at he
      | some cells' =>
        rw [hp] at he
        simp only [fillPart] at hp
        obtain ⟨h1, h2⟩ := ifo_some hp
        cases h2
        obtain ⟨h3, h4⟩ := andB_true h1
        obtain ⟨h5, h6⟩ := andB_true h4
        have hi := lenLe_le h3
        have hn := lenEq_eq h5
        have hfit := lenLe_le h6
        have hcx := (hev x).cells hc
        have hget : (fields.map fun x => (x.1, x.2.1))[i]? = some ((fields.getD i (0, 0, false)).1, (fields.getD i (0, 0, false)).2.1) := by
          rw [List.getElem?_map, List.getD_eq_getElem?_getD, List.getElem?_eq_getElem (show i < fields.length by omega)]
          rfl
        have hstep := CellsRd.setCells as (ev' x).cells.toList (fields.getD i (0, 0, false)).1 cells cs h (by simpa using hcx.1) (fun v hv => hcx.2.1 v (by simpa using hv)) (fun j a v ha hv => hcx.2.2 j a v ha (by simpa using hv)) 0 _ rfl
        obtain ⟨cs', k1, k2⟩ := fill_struct hev parts _ out _ hstep he
        refine ⟨cs', ?_, k2⟩
        have e1 : (ev' x).cells.size = (fields.getD i (0, 0, false)).2.1 := by rw [hcx.1, hn]
        have e2 : ¬ (fields.getD i (0, 0, false)).1 + (ev' x).cells.size > cs.size := by rw [e1, h.1]; omega
        have e3 : ((ev' x).cells.zipIdx.foldl (fun cs (c, j) => cs.setIfInBounds ((fields.getD i (0, 0, false)).1 + j) c) cs) = ((ev' x).cells.toList.zipIdx 0).foldl (fun cs (c, j) => cs.setIfInBounds ((fields.getD i (0, 0, false)).1 + j) c) cs := by
          rw [← Array.foldl_toList, Array.toList_zipIdx]
        simp only [List.map_cons, Instr.fill, hget]
        rw [if_neg (by simp only [Bool.or_eq_true, bne_iff_ne, ne_eq, decide_eq_true_eq]; exact fun h => h.elim (fun h => h e1) e2), e3]
        exact k1

theorem build_step {te : TE} (hte : TEok P te) (hm : RH w S ρ H) (t : TypeId) {E : Operand → AV} {ev' : Operand → Value} (hev : ∀ x, Rd w S ρ H.length (E x) (ev' x)) (parts : Array (Nat × Operand)) {out : Out} (he : evBuildT E parts.toList (te t) = some out) :
    Step P w S ρ H (Instr.build t (parts.map fun (i, x) => (i, ev' x))) out.v (putH H out.w) := by
  cases hi : te t with
  | none => rw [hi] at he; cases he
  | some i =>
    rw [hi] at he
    obtain ⟨inf, d, z, hf⟩ := hte.get hi
    simp only [evBuildT] at he
    cases hk : i.kind.isAgg with
    | false => rw [hk] at he; cases he
    | true =>
      rw [hk] at he
      simp only [buildK] at he
      have hd : ∃ fs, d = .struct fs := by
        have := hf.kind
        unfold kOK at this
        split at this <;> simp_all [TK.isAgg]
      obtain ⟨fs, rfl⟩ := hd
      cases hfp : fillParts i.fields E parts.toList (some i.zero) with
      | none => rw [hfp] at he; cases he
      | some cells =>
        rw [hfp] at he
        have := ret_some he; subst this
        obtain ⟨cs', k1, k2⟩ := fill_struct hev parts.toList _ cells _ (hf.zcells w S ρ H.length).1 hfp
        have hpl := places_of (hf.fall fs rfl)
        have hb : P.built t (parts.map fun (i, x) => (i, ev' x)).toList = some cs' := by
          unfold Program.built
          simp only [hf.info, hf.und, hf.zero, hpl]
          rw [← k1]
          simp
        refine Step.pure hm (run_build w t _ cs' hb) ?_
        have hl : cells.length = cs'.toList.length := by simpa using k2.1.symm
        exact .agg _ cells cs'.toList hl (fun v hv => k2.2.1 v (by simpa using hv)) (fun j a v ha hv => k2.2.2 j a v ha (by simpa using hv))

/-! ### New variables -/
theorem alloc_step {te : TE} (hte : TEok P te) (hm : RH w S ρ H) {p : Nat} (hp : Fresh H p) (t : TypeId) {out : Out} (he : evAlloc p (te t) = some out) : Step P w S ρ H (Instr.alloc t true (.tuple #[])) out.v (putH H out.w) := by
  cases hi : te t with
  | none => rw [hi] at he; cases he
  | some i =>
    rw [hi] at he
    obtain ⟨inf, d, z, hf⟩ := hte.get hi
    cases he
    refine Step.var hm hp ?_ (hf.zcells w S ρ H.length).1 (ty := t)
    simp [Instr.alloc, hf.run_zero, newVar, newRow]
theorem box_step {te : TE} (hte : TEok P te) (hm : RH w S ρ H) {p : Nat} (hp : Fresh H p) (t : TypeId) {a : AV} {u : Value} (hu : Rd w S ρ H.length a u) {out : Out} (he : evBox p (te t) (cellsOf a) = some out) : Step P w S ρ H (Instr.box t u) out.v (putH H out.w) := by
  cases hi : te t with
  | none => rw [hi] at he; cases he
  | some i =>
    cases hc : cellsOf a with
    | none => rw [hi, hc] at he; cases he
    | some cs =>
      rw [hi, hc] at he
      obtain ⟨h1, h2⟩ := ifo_some he
      cases h2
      refine Step.var hm hp ?_ (hu.cells hc) (ty := t)
      simp [Instr.box, newVar, newRow]

/-! ### New rows -/
theorem madeCells_get (z : Array Value) (n j : Nat) (h : j < n) (hz : 0 < z.size) : (madeCells z n)[j]? = z[j % z.size]? := by
  unfold madeCells
  rw [Array.getElem?_map]
  have : (Array.range n)[j]? = some j := by simp [h]
  rw [this]
  have hlt : j % z.size < z.size := Nat.mod_lt _ hz
  simp [hlt]

theorem closedAll_zero : ∀ {as : List AV} {vs : List Value}, zAll as vs = true → closedAll as = true
  | [], [], _ => rfl
  | [], _ :: _, h => by simp [zAll] at h
  | _ :: _, [], h => by simp [zAll] at h
  | a :: as, v :: vs, h => by
    simp only [zAll, Bool.and_eq_true] at h
    have h1 := (zMatch_rd h.1 (default : World) (fun _ => False) (fun _ => ⟨0, 0, 0, 0⟩) 0).2.2
    simp [closedAll, h1, Rf.andB, closedAll_zero h.2]

theorem TF.zero_rows {t : TypeId} {i : TI} {inf : TypeInfo} {d : TypeDesc} {z : Value} (hf : TF P t i inf d z) (w : World) (S : Nat → Prop) (ρ : Reg) (k m : Nat) : RowsRd w S ρ k i.size (List.replicate m (nfs i.zero)) (madeCells z.cells (m * i.size)).toList := by
  have hz := (hf.zcells w S ρ k)
  have hn := hz.1.nfs
  have hpos := hf.pos
  refine ⟨by simp [size_madeCells], ?_, ?_, ?_⟩
  · intro v hv
    obtain ⟨j, hj⟩ := List.getElem?_of_mem hv
    have hlt := (List.getElem?_eq_some_iff.1 hj).1
    simp only [Array.length_toList, size_madeCells] at hlt
    rw [Array.getElem?_toList, madeCells_get _ _ _ hlt (by rw [hz.2]; exact hpos)] at hj
    exact hz.1.2.1 v (Array.mem_of_getElem? hj)
  · intro e he
    obtain ⟨_, rfl⟩ := List.mem_replicate.1 he
    rw [nfs_length, hf.zlen]
  · intro r c e a v he ha hv
    rw [List.getElem?_replicate] at he
    split at he
    · rename_i hr
      cases he
      have hc : c < i.size := by
        have := (List.getElem?_eq_some_iff.1 ha).1
        rwa [nfs_length, hf.zlen] at this
      rw [Array.getElem?_toList, madeCells_get _ _ _ (idx_lt hr hc) (by rw [hz.2]; exact hpos), hz.2, Nat.add_comm, Nat.add_mul_mod_self_right, Nat.mod_eq_of_lt hc] at hv
      exact hn.2.2 c a v ha hv
    · cases he

theorem make_step {te : TE} (hte : TEok P te) (hm : RH w S ρ H) {p : Nat} (hp : Fresh H p) (t : TypeId) {a b : AV} {u v : Value} (hu : Rd w S ρ H.length a u) (hv : Rd w S ρ H.length b v) {out : Out} (he : evMakeT p a b (elemI te (te t)) = some out) (hc : condK out.c True) :
    Step P w S ρ H (Instr.makeSlice t u v) out.v (putH H out.w) := by
  cases hi : elemI te (te t) with
  | none => rw [hi] at he; cases he
  | some i =>
    rw [hi] at he
    obtain ⟨j, e, h1, h2, h3⟩ := elemI_some hi
    obtain ⟨inf, d, z, hf⟩ := hte.get h1
    obtain ⟨inf', d', z', hf'⟩ := hte.get h3
    have := hf.kslice h2; subst this
    simp only [evMakeT] at he
    unfold evMake at he
    split at he
    · rename_i n m
      obtain ⟨h4, h5⟩ := ifo_some he
      cases h5
      simp only [condK] at hc
      obtain ⟨⟨rfl, h0, hb⟩, _⟩ := hc
      cases hu; cases hv
      have hbp := hf'.bpos
      have hn : n ≤ 140737488355328 := by
        have : n * 1 ≤ n * (i.bytes : Int) := Int.mul_le_mul_of_nonneg_left (by omega) h0
        omega
      have hrun := run_make (P := P) w t e inf' z' hf.und hf'.info hf'.zero .i64 .i64 n n h0 (Int.le_refl _) (by rw [hf'.bytes, Int.mul_comm]; omega) (by omega)
      rw [hf'.size] at hrun
      have hl : (List.replicate n.toNat (nfs i.zero)).length = n.toNat := by simp
      have hz := hf'.zero_rows w S ρ 0 n.toNat
      have key := hm.fresh hp (w.alloc (.cells (madeCells z'.cells (n.toNat * i.size)) e)) ⟨w.heap.size, n.toNat, 1, i.size⟩ (.arr true 1 i.size none (List.replicate n.toNat (nfs i.zero))) rfl rfl rfl rfl (by simp) (fun k hk => heap_alloc_old w _ hk) (fun _ => Nat.le_refl _)
        (fun hS hN hl' => EntRd.of_rows (by rw [upd_same]) Nat.one_pos (by rw [upd_same]) hf'.pos (by rw [upd_same]; exact Nat.le_of_eq hl) (by rw [upd_same]; simp only [maxLen]; omega) (by simp) (fun e he => hz.row e he) (by
          intro _
          rw [upd_same]
          refine ⟨_, _, heap_alloc_new w _, ?_, ?_, ?_⟩
          · have := hz.len
            simpa using this
          · intro v hv
            exact hz.one v (by simpa using hv)
          · have e1 : (madeCells z'.cells (n.toNat * i.size)).toList.take ((List.replicate n.toNat (nfs i.zero)).length * i.size) = (madeCells z'.cells (n.toNat * i.size)).toList := by rw [← hz.len]; exact List.take_length
            rw [e1]
            exact hz.mono hS (Nat.le_refl _) (hN.mono (Nat.zero_le _))))
      refine ⟨_, _, S, _, hrun, ?_, key.1, key.2⟩
      refine .own _ _ _ _ _ _ ?_ ?_ (Nat.le_refl _) (fun _ => rfl) ?_
      · show p < (setH H p _).length
        rw [setH_length H p _ hp.1]; omega
      · rw [upd_same]; exact Nat.le_refl _
      · intro _; rw [upd_same]; exact ⟨rfl, fun _ => rfl⟩
    · cases he

theorem repl_eq (n : Nat) (z : List AV) : repl n z = List.replicate n z := by
  induction n with
  | zero => rfl
  | succ n ih => simp [repl, ih, List.replicate_succ]

theorem fill_rows (cl : Bool) {sz : Nat} {E : Operand → AV} {ev' : Operand → Value} (hev : ∀ x, Rd w S ρ H.length (E x) (ev' x)) : ∀ (parts : List (Nat × Operand)) (es out : List (List AV)) (cs : Array Value), RowsRd w S ρ (if cl then 0 else H.length) sz es cs.toList →
    fillElems cl E sz parts (some es) = some out → ∃ cs', Instr.fill (fun i => some (i * sz, sz)) cs (parts.map fun (i, x) => (i, ev' x)) = some cs' ∧ RowsRd w S ρ (if cl then 0 else H.length) sz out cs'.toList ∧ out.length = es.length
  | [], es, out, cs, h, he => by
    simp only [fillElems, Option.some.injEq] at he
    subst he
    exact ⟨cs, rfl, h, rfl⟩
  | (i, x) :: parts, es, out, cs, h, he => by
    simp only [fillElems] at he
    cases hc : cellsOf (E x) with
    | none => rw [hc] at he; simp only [fillElem] at he; cases parts <;> simp [fillElems] at he
    | some as =>
      rw [hc] at he
      cases hp : fillElem cl sz es i (some as) with
      | none => rw [hp] at he; cases parts <;> simp [fillElems] at he
      | some es' =>
        rw [hp] at he
        simp only [fillElem] at hp
        obtain ⟨h1, h2⟩ := ifo_some hp
        cases h2
        obtain ⟨h3, h4⟩ := andB_true h1
        obtain ⟨h5, h6⟩ := andB_true h4
        have hi := lenLe_le h3
        have hn := lenEq_eq h5
        have hcx : CellsRd w S ρ (if cl then 0 else H.length) (nfs as) (ev' x).cells := by
          cases cl with
          | true => exact (((hev x).cells hc).closed h6).nfs
          | false => exact ((hev x).cells hc).nfs
        have hrow := hcx.rows (sz := sz) (by rw [nfs_length]; exact hn)
        have e1 : (ev' x).cells.size = sz := by rw [hcx.1, nfs_length, hn]
        have hlen := h.len
        have hcs : cs.size = es.length * sz := by simpa using hlen
        have hfit : i * sz + sz ≤ cs.size := by
          rw [hcs]
          have := Nat.mul_le_mul_right sz (show i + 1 ≤ es.length by omega)
          rw [Nat.succ_mul] at this
          exact this
        have hset := h.set (show i < es.length by omega) hrow
        have e2 := foldl_set_toList (ev' x).cells.toList 0 (i * sz) cs (by simp [e1]; omega)
        simp only [Nat.add_zero, Array.length_toList, e1] at e2
        rw [show (i + 1) * sz = i * sz + sz by rw [Nat.succ_mul], ← e2] at hset
        obtain ⟨cs', k1, k2, k3⟩ := fill_rows cl hev parts _ out _ hset he
        refine ⟨cs', ?_, k2, by simpa using k3⟩
        have e3 : ((ev' x).cells.zipIdx.foldl (fun cs (c, j) => cs.setIfInBounds (i * sz + j) c) cs) = ((ev' x).cells.toList.zipIdx 0).foldl (fun cs (c, j) => cs.setIfInBounds (i * sz + j) c) cs := by
          rw [← Array.foldl_toList, Array.toList_zipIdx]
        simp only [List.map_cons, Instr.fill]
        rw [if_neg (by simp only [Bool.or_eq_true, bne_iff_ne, ne_eq, decide_eq_true_eq]; exact fun h => h.elim (fun h => h e1) (fun h => by omega)), e3]
        exact k1

theorem lit_run {t e : TypeId} {i : TI} {inf' : TypeInfo} {d' : TypeDesc} {z' : Value} (hut : P.underlying t = some (.slice e)) (hf' : TF P e i inf' d' z') (w : World) {n : Nat} (hn : n ≤ 1000) (hs : i.size ≤ 1000) {ps : Array (Nat × Value)} {cs' : Array Value}
    (k1 : Instr.fill (fun k => some (k * i.size, i.size)) (madeCells z'.cells (n * i.size)) ps.toList = some cs') :
    (Instr.buildSlice t n ps).run P w = .ok (.slice (some ⟨w.heap.size, 0, none⟩) n n) (w.alloc (.cells cs' e)) := by
  have hbig : ¬ n * i.size > 16777216 := by
    have := Nat.mul_le_mul hn hs
    omega
  have hfill : Instr.fill (fun k => some (k * i.size, i.size)) ((Array.range (n * i.size)).map (z'.cells[· % z'.cells.size]!)) ps.toList = some cs' := by
    rw [← k1]
    simp [madeCells]
  unfold Instr.buildSlice
  rw [Sem.run_bind, run_underlying hut]
  simp only [Result.andThen_ok, Sem.run_bind, hf'.run_size]
  rw [Sem.run_ite, if_neg hbig]
  by_cases h0 : n * i.size = 0
  · have hn0 : n = 0 := by
      rcases Nat.mul_eq_zero.1 h0 with h0 | h0
      · exact h0
      · have := hf'.pos; omega
    subst hn0
    simp only [Nat.zero_mul, Array.range_zero', Array.map_empty, Array.toList_map] at hfill
    simp [Array.range_zero', hfill, newRow]
  · simp only [Sem.run_pure, Result.andThen_ok, h0, if_false, Sem.run_bind, hf'.run_zero, hfill, newRow, run_newObj, World.alloc_eq]

theorem lit_step {te : TE} (hte : TEok P te) (hm : RH w S ρ H) {p : Nat} (hp : Fresh H p) (t : TypeId) (n : Nat) {E : Operand → AV} {ev' : Operand → Value} (hev : ∀ x, Rd w S ρ H.length (E x) (ev' x)) (parts : Array (Nat × Operand)) {out : Out} (he : evLitT p E n parts.toList (elemI te (te t)) = some out) :
    Step P w S ρ H (Instr.buildSlice t n (parts.map fun (i, x) => (i, ev' x))) out.v (putH H out.w) := by
  cases hi : elemI te (te t) with
  | none => rw [hi] at he; cases he
  | some i =>
    rw [hi] at he
    obtain ⟨j, e, h1, h2, h3⟩ := elemI_some hi
    obtain ⟨inf, d, z, hf⟩ := hte.get h1
    obtain ⟨inf', d', z', hf'⟩ := hte.get h3
    have := hf.kslice h2; subst this
    simp only [evLitT] at he
    cases hl : evLit n i.size (fillElems true E i.size parts.toList (some (repl n (nfs i.zero)))) with
    | some out' =>
      rw [hl] at he
      simp only [orLit, Option.some.injEq] at he
      subst he
      cases hfe : fillElems true E i.size parts.toList (some (repl n (nfs i.zero))) with
      | none => rw [hfe] at hl; cases hl
      | some es =>
        rw [hfe] at hl
        simp only [evLit] at hl
        obtain ⟨h4, h5⟩ := ifo_some hl
        obtain ⟨h6, h7⟩ := andB_true h4
        have := ret_some h5; subst this
        rw [repl_eq] at hfe
        obtain ⟨cs', k1, k2, k3⟩ := fill_rows true hev parts.toList _ es _ (hf'.zero_rows w S ρ _ n) hfe
        simp only [List.length_replicate] at k3
        have hrun := lit_run hf.und hf' w (leb_le h6) (leb_le h7) (ps := parts.map fun (i, x) => (i, ev' x)) (cs' := cs') (by rw [← k1]; simp)
        have hn := leb_le h6
        refine Step.row hm (w.alloc (.cells cs' e)) true (cap := n) (by rw [k3]; exact hrun) rfl rfl rfl (by simp) (fun k hk => heap_alloc_old w _ hk) (heap_alloc_new w _) (fun k v hv => by rw [Array.getElem?_toList] at hv; exact hv) k2 (by omega) (by simp only [maxLen]; omega) (fun _ => k3.symm)
    | none =>
      rw [hl] at he
      simp only [orLit] at he
      cases hfe : fillElems false E i.size parts.toList (some (repl n (nfs i.zero))) with
      | none => rw [hfe] at he; cases he
      | some es =>
        rw [hfe] at he
        simp only [litOwn] at he
        obtain ⟨h4, h5⟩ := ifo_some he
        obtain ⟨h0, h4⟩ := andB_true h4
        obtain ⟨h6, h7⟩ := andB_true h4
        cases h5
        rw [repl_eq] at hfe
        obtain ⟨cs', k1, k2, k3⟩ := fill_rows false hev parts.toList _ es _ (hf'.zero_rows w S ρ _ n) hfe
        simp only [List.length_replicate] at k3
        have hn0 := leb_le h0
        have hn := leb_le h6
        have hrun := lit_run hf.und hf' w (leb_le h6) (leb_le h7) (ps := parts.map fun (i, x) => (i, ev' x)) (cs' := cs') (by rw [← k1]; simp)
        have key := hm.fresh hp (w.alloc (.cells cs' e)) ⟨w.heap.size, n, 1, i.size⟩ (.arr false 1 i.size none es) rfl rfl rfl rfl (by simp) (fun k hk => heap_alloc_old w (.cells cs' e) hk) (fun _ => Nat.le_refl _)
          (fun hS hN hl => EntRd.of_rows (by rw [upd_same]) Nat.one_pos (by rw [upd_same]) hf'.pos (by rw [upd_same]; exact Nat.le_of_eq k3) (by rw [upd_same]; simp only [maxLen]; omega) (by simp) (fun e he => k2.row e he) (by
            intro _
            rw [upd_same]
            refine ⟨cs', _, heap_alloc_new w _, ?_, ?_, ?_⟩
            · have := k2.len
              simpa [k3] using this
            · intro v hv
              exact k2.one v (by simpa using hv)
            · have e1 : cs'.toList.take (es.length * i.size) = cs'.toList := by rw [← k2.len]; exact List.take_length
              rw [e1]
              exact k2.mono hS hl hN))
        refine ⟨_, _, S, _, hrun, ?_, key.1, key.2⟩
        refine .own _ _ _ _ _ _ ?_ ?_ (Nat.le_refl _) (fun _ => rfl) ?_
        · show p < (setH H p _).length
          rw [setH_length H p _ hp.1]; omega
        · rw [upd_same]; exact Nat.le_refl _
        · intro _; rw [upd_same]; exact ⟨rfl, fun _ => rfl⟩

end
end Go.Rf
end
