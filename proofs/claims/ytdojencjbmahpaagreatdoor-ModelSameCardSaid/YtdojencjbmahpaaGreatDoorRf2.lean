/-
  THE SYMBOLIC EXECUTOR, part 2: what must hold for a piece of code to go through (weakest preconditions), as plain definitions.
-/
import Derived.Test.YtdojencjbmahpaaGreatDoorRf1
set_option linter.unusedVariables false
namespace Go.Rf

/-- A contract on data: what the arguments must be, and what then comes out: a value, and (in place 0) an array that it may own. -/
abbrev DSpec := List AV → (AV → Ent → Prop) → Prop
/-- A contract on the abstract memory. -/
abbrev GSpec := List AV → List Ent → (AV → List Ent → Prop) → Prop

inductive Spec where
  | dat (D : DSpec)
  | gen (G : GSpec)
  | fn (C : List AV → Prop) (g : List AV → AV)

abbrev GE := FuncId → Option Spec

def condK : Option DP → Prop → Prop
  | none, K => K
  | some c, K => c.p ∧ K

def putT (T : List AV) (v : AV) : Option Nat → List AV
  | some d => T.set d v
  | none => T

def setH : List Ent → Nat → Ent → List Ent
  | [], _, e => [e]
  | _ :: H, 0, e => e :: H
  | x :: H, q + 1, e => x :: setH H q e

def putH : List Ent → List (Nat × Ent) → List Ent
  | H, [] => H
  | H, (q, e) :: w => putH (setH H q e) w

/-- A nil that stands in the code as a constant has the type that it is used at. -/
def nilAt (fr : Bool) : Option TI → AV
  | some i => .sl i.size fr []
  | none => .sl 0 fr []
def rty (te : TE) (t : TypeId) : AV → AV
  | .sl 0 fr [] => nilAt fr (elemI te (te t))
  | .sl 0 fr (e :: es) => .sl 0 fr (e :: es)
  | .sl (n + 1) fr es => .sl (n + 1) fr es
  | .junk => .junk
  | .int k n => .int k n
  | .bool b => .bool b
  | .str s => .str s
  | .fn f => .fn f
  | .agg cs => .agg cs
  | .tup vs => .tup vs
  | .own p v l => .own p v l
  | .osub p v o l => .osub p v o l
  | .ptr p o => .ptr p o
  | .eptr p v i k => .eptr p v i k
  | .rptr sz es i k => .rptr sz es i k

abbrev Rs (α : Type) := Option (Option DP × α)

def contR : Option Cont → Rs AV
  | some ⟨c, sz, true, es, _⟩ => some (c, .sl sz false es)
  | _ => none
/-- A value as data: what the abstract memory holds of it is told. -/
def rslv1 (H : List Ent) : AV → Rs AV
  | .int k n => some (none, .int k n)
  | .bool b => some (none, .bool b)
  | .str s => some (none, .str s)
  | .fn f => some (none, .fn f)
  | .sl sz _ es => some (none, .sl sz false es)
  | .own q ver len => contR (contO q ver len (H.getD q .none))
  | .osub q ver off len => contR (contS q ver off len (H.getD q .none))
  | _ => none

def andOO : Option DP → Option DP → Option DP
  | none, b => b
  | some a, none => some a
  | some a, some b => some (andO (some a) b)

def consR : Rs AV → Rs (List AV) → Rs (List AV)
  | some (c, x), some (d, xs) => some (andOO c d, x :: xs)
  | _, _ => none
def rslvs (H : List Ent) : List AV → Rs (List AV)
  | [] => some (none, [])
  | v :: vs => consR (rslv1 H v) (rslvs H vs)
def aggR : Rs (List AV) → Rs AV
  | some (c, xs) => some (c, .agg xs)
  | none => none
def tupR : Rs (List AV) → Rs AV
  | some (c, xs) => some (c, .tup xs)
  | none => none

def rslv (H : List Ent) : AV → Rs AV
  | .agg cs => aggR (rslvs H cs)
  | .int k n => some (none, .int k n)
  | .bool b => some (none, .bool b)
  | .str s => some (none, .str s)
  | .fn f => some (none, .fn f)
  | .sl sz _ es => some (none, .sl sz false es)
  | .own q ver len => contR (contO q ver len (H.getD q .none))
  | .osub q ver off len => contR (contS q ver off len (H.getD q .none))
  | _ => none
def rslvL (H : List Ent) : List AV → Rs (List AV)
  | [] => some (none, [])
  | v :: vs => consR (rslv H v) (rslvL H vs)
def rslvR (H : List Ent) : AV → Rs AV
  | .tup vs => tupR (rslvL H vs)
  | .agg cs => aggR (rslvs H cs)
  | .int k n => some (none, .int k n)
  | .bool b => some (none, .bool b)
  | .str s => some (none, .str s)
  | .fn f => some (none, .fn f)
  | .sl sz _ es => some (none, .sl sz false es)
  | .own q ver len => contR (contO q ver len (H.getD q .none))
  | .osub q ver off len => contR (contS q ver off len (H.getD q .none))
  | _ => none

def orB : Bool → Bool → Bool
  | true, _ => true
  | false, b => b

/-- Does a value name the abstract memory? -/
def names1 : AV → Bool
  | .int .. => false
  | .bool _ => false
  | .str _ => false
  | .fn _ => false
  | .sl .. => false
  | .junk => true
  | .agg _ => true
  | .tup _ => true
  | .own .. => true
  | .osub .. => true
  | .ptr .. => true
  | .eptr .. => true
  | .rptr .. => true
def namesL : List AV → Bool
  | [] => false
  | v :: vs => orB (names1 v) (namesL vs)
def names : AV → Bool
  | .agg cs => namesL cs
  | .int .. => false
  | .bool _ => false
  | .str _ => false
  | .fn _ => false
  | .sl .. => false
  | .junk => true
  | .tup _ => true
  | .own .. => true
  | .osub .. => true
  | .ptr .. => true
  | .eptr .. => true
  | .rptr .. => true
def namesA : List AV → Bool
  | [] => false
  | v :: vs => orB (names v) (namesA vs)

/-- A result that leads nowhere. -/
def scalar1 : AV → Prop
  | .int .. => True
  | .bool _ => True
  | .str _ => True
  | _ => False
def scalarL : List AV → Prop
  | [] => True
  | v :: vs => scalar1 v ∧ scalarL vs
def scalar : AV → Prop
  | .tup vs => scalarL vs
  | .int .. => True
  | .bool _ => True
  | .str _ => True
  | _ => False

/-- What comes back names place 0 alone; here it is place p. -/
def mv1 (p : Nat) : AV → AV
  | .own _ ver len => .own p ver len
  | .sl sz fr es => .sl sz fr es
  | .junk => .junk
  | .int k n => .int k n
  | .bool b => .bool b
  | .str s => .str s
  | .fn f => .fn f
  | .rptr sz es i k => .rptr sz es i k
  | .agg _ => .junk
  | .tup _ => .junk
  | .osub _ _ _ _ => .junk
  | .ptr _ _ => .junk
  | .eptr _ _ _ _ => .junk
def mvL (p : Nat) : List AV → List AV
  | [] => []
  | v :: vs => mv1 p v :: mvL p vs
def mv (p : Nat) : AV → AV
  | .agg cs => .agg (mvL p cs)
  | .own _ ver len => .own p ver len
  | .sl sz fr es => .sl sz fr es
  | .junk => .junk
  | .int k n => .int k n
  | .bool b => .bool b
  | .str s => .str s
  | .fn f => .fn f
  | .rptr sz es i k => .rptr sz es i k
  | .tup _ => .junk
  | .osub _ _ _ _ => .junk
  | .ptr _ _ => .junk
  | .eptr _ _ _ _ => .junk
def mvT (p : Nat) : List AV → List AV
  | [] => []
  | v :: vs => mv p v :: mvT p vs
def mvR (p : Nat) : AV → AV
  | .tup vs => .tup (mvT p vs)
  | .agg cs => .agg (mvL p cs)
  | .own _ ver len => .own p ver len
  | .sl sz fr es => .sl sz fr es
  | .junk => .junk
  | .int k n => .int k n
  | .bool b => .bool b
  | .str s => .str s
  | .fn f => .fn f
  | .rptr sz es i k => .rptr sz es i k
  | .osub _ _ _ _ => .junk
  | .ptr _ _ => .junk
  | .eptr _ _ _ _ => .junk

def pushE (p : Nat) : Ent → List (Nat × Ent)
  | .none => []
  | .var cs => [(p, .var cs)]
  | .arr cl v sz cap es => [(p, .arr cl v sz cap es)]

def evs (te : TE) (T : List AV) : List Operand → List TypeId → List AV
  | [], _ => []
  | x :: xs, [] => ev T x :: evs te T xs []
  | x :: xs, t :: ts => rty te t (ev T x) :: evs te T xs ts

/-- How the walk goes on behind an operation. -/
abbrev Kont := St → Prop

/-- Two ways. Where the test is known the machine takes its way; else both are asked. -/
def ifB (b : Bool) (A B : Prop) : Prop :=
  match b with
  | true => A
  | false => B

/-- What is read out of a row is told by its kinds: numbers, bools, strings, rows. -/
def shape : List AV → List AV → (List AV → Prop) → Prop
  | [], [], K => K []
  | .int k _ :: zs, a :: cs, K => ∃ n, a = .int k n ∧ shape zs cs fun r => K (.int k n :: r)
  | .bool _ :: zs, a :: cs, K => ∃ b, a = .bool b ∧ shape zs cs fun r => K (.bool b :: r)
  | .str _ :: zs, a :: cs, K => ∃ s, a = .str s ∧ shape zs cs fun r => K (.str s :: r)
  | .sl sz _ _ :: zs, a :: cs, K => ∃ es, a = .sl sz false es ∧ shape zs cs fun r => K (.sl sz false es :: r)
  | _, _, _ => False
def shapeG (z : List AV) (K : AV → Prop) : AV → Prop
  | .agg cs => shape z cs fun r => K (.agg r)
  | _ => False
def shapeW (z : List AV) (v : AV) (K : AV → Prop) : Bool → Prop
  | true => shapeG z K v
  | false => shape z [v] fun r => K (r.getD 0 .junk)
def shapeV : Option TI → AV → (AV → Prop) → Prop
  | some i, v, K => shapeW i.zero v K i.kind.isAgg
  | none, _, _ => False
def loadTy : Op → TypeId
  | .load t _ => t
  | _ => 0
def rawK (te : TE) (op : Op) (v : AV) (K : AV → Prop) (raw : Bool) : Prop := ifB raw (shapeV (te (loadTy op)) v K) (K v)
def kSt (T : List AV) (H : List Ent) (dst : Option Nat) (K : Kont) (v : AV) (w : List (Nat × Ent)) : Prop := K ⟨putT T v dst, putH H w⟩

/-- A call under a contract on data. -/
def kDat (p : Nat) (K : AV → List (Nat × Ent) → Prop) : AV → Ent → Prop := fun r e => K (mvR p r) (pushE p e)
def kScalar (K : AV → List (Nat × Ent) → Prop) : AV → Ent → Prop := fun r e => (scalar r ∧ e = .none) ∧ K r []
def wDat (D : DSpec) (p : Nat) (K : AV → List (Nat × Ent) → Prop) : Bool → Rs (List AV) → Prop
  | false, some (_, xs) => D xs (kDat p K)
  | true, some (c, xs) => condK c (D xs (kScalar K))
  | _, none => False

def calleeOf (Γ : GE) : AV → Option Spec
  | .fn g => Γ g
  | _ => none

def isNilConst : Operand → Bool
  | .const (.slice none 0 0) => true
  | .tmp _ => false
  | .func _ => false
  | .global _ => false
  | _ => false

def notIf : Bool → Bool → Bool
  | true, b => !b
  | false, b => b
def wNil (neq : Bool) (K : AV → Prop) : AV → Prop
  | .sl _ _ es => ∀ b : Bool, (b = true → es = []) → K (.bool (notIf neq b))
  | .own _ _ len => ∀ b : Bool, (b = true → len = 0) → K (.bool (notIf neq b))
  | _ => False
def kNil (K : AV → List (Nat × Ent) → Prop) : AV → Prop := fun r => K r []

def capE (q ver len : Nat) (K : AV → List (Nat × Ent) → Prop) : Ent → Prop
  | .arr _ v sz (some C) es => (v = ver ∧ len = es.length) ∧ K (.int .i64 (C : Int)) []
  | .arr cl v sz none es => (v = ver ∧ len = es.length) ∧ ∀ C : Nat, es.length ≤ C → C ≤ 9223372036854775807 → K (.int .i64 (C : Int)) [(q, .arr cl v sz (some C) es)]
  | _ => False
def wCap (H : List Ent) (K : AV → List (Nat × Ent) → Prop) : AV → Prop
  | .own q ver len => capE q ver len K (H.getD q .none)
  | _ => False

/-- 's[:h]' into the spare room. -/
def extE (q ver len : Nat) (h : Int) (K : AV → List (Nat × Ent) → Prop) : Ent → Prop
  | .arr cl v sz (some C) es => (v = ver ∧ len = es.length ∧ (es.length : Int) ≤ h ∧ h ≤ C) ∧
      K (.own q ver h.toNat) [(q, .arr cl v sz (some C) (es ++ List.replicate (h.toNat - es.length) (List.replicate sz .junk)))]
  | _ => False
def extV (i : TI) (H : List Ent) : AV → Option (Option Int) → Option (Option Int) → Option (Option Int) → Option (Nat × Nat × Nat × Int)
  | .own q ver len, some none, some (some h), some none => ifo (esz1 i.size (H.getD q .none)) (some (q, ver, len, h))
  | _, _, _, _ => none
def extT (H : List Ent) (x : AV) (lo hi mx : Option (Option Int)) : Option TI → Option (Nat × Nat × Nat × Int)
  | some i => extV i H x lo hi mx
  | none => none
def extOf (te : TE) (T : List AV) (H : List Ent) : Op → Option (Nat × Nat × Nat × Int)
  | .slice t x lo hi mx => extT H (ev T x) (optInt (ev T) lo) (optInt (ev T) hi) (optInt (ev T) mx) (elemI te (te t))
  | _ => none
def extK (H : List Ent) (K : AV → List (Nat × Ent) → Prop) (A : Prop) : Option (Nat × Nat × Nat × Int) → Prop
  | none => A
  | some (q, ver, len, h) => A ∨ extE q ver len h K (H.getD q .none)

def isSlice : Option TI → Bool
  | some i => isSliceK i.kind
  | none => false
where isSliceK : TK → Bool
  | .slice _ => true
  | _ => false
def wCapT (H : List Ent) (K : AV → List (Nat × Ent) → Prop) (x : AV) (ti : Option TI) : Prop := ifB (isSlice ti) (wCap H K x) False

def outK (K : AV → List (Nat × Ent) → Prop) : Option Out → Prop
  | some ⟨c, v, w, _, _, _⟩ => condK c (K v w)
  | none => False

/-- A contract on data that tells what comes out as a function of what goes in. -/
def fnD (C : List AV → Prop) (g : List AV → AV) : DSpec := fun xs Φ => C xs ∧ Φ (g xs) .none
def wCall (te : TE) (T : List AV) (H : List Ent) (dst : Option Nat) (args : List AV) (K : Kont) : Option Spec → Prop
  | some (.dat D) => wDat D H.length (kSt T H dst K) (namesA args) (rslvL H args)
  | some (.gen G) => G args H (fun r H' => K ⟨putT T r dst, H'⟩)
  | some (.fn C g) => wDat (fnD C g) H.length (kSt T H dst K) (namesA args) (rslvL H args)
  | none => False

def wApp2 (H : List Ent) (x : AV) (K : AV → List (Nat × Ent) → Prop) (k : Option Cont) : Option TI → Prop
  | some i => outK K (evAppendIn H i.size x k) ∨ outK K (evAppendOut H.length H i.size i.bytes x k)
  | none => False
def wApp (te : TE) (T : List AV) (H : List Ent) (K : AV → List (Nat × Ent) → Prop) (x y : AV) (t2 : Option TI) : Option TI → Prop
  | some i => wApp2 H x K (appArg H i t2 y) (some i)
  | none => False

def wBuiltin (te : TE) (T : List AV) (H : List Ent) (K : AV → List (Nat × Ent) → Prop) : Builtin → List Operand → List TypeId → Prop
  | .cap, [x], [t] => wCapT H K (ev T x) (te t)
  | .append, [x, y], [t, u] => wApp te T H K (ev T x) (ev T y) (te u) (elemI te (te t))
  | _, _, _ => False

def wNilK (neq : Bool) (x : AV) (K : AV → List (Nat × Ent) → Prop) : Bool → Prop
  | true => wNil neq (kNil K) x
  | false => False
def wBin (x : AV) (K : AV → List (Nat × Ent) → Prop) (nil : Bool) : BinOp → Prop
  | .eql => wNilK false x K nil
  | .neq => wNilK true x K nil
  | _ => False

/-- Operations that are no plain evaluation. -/
def wSpecial (te : TE) (Γ : GE) (T : List AV) (H : List Ent) (dst : Option Nat) (K : Kont) : Op → Prop
  | .call ⟨.value f, args, tys⟩ => wCall te T H dst (evs te T args.toList tys.toList) K (calleeOf Γ (ev T f))
  | .call ⟨.builtin b, args, tys⟩ => wBuiltin te T H (kSt T H dst K) b args.toList tys.toList
  | .binOp op t x y _ => wBin (ev T x) (kSt T H dst K) (andB (isSlice (te t)) (isNilConst y)) op
  | _ => False

def opK (te : TE) (Γ : GE) (o : Oper) (T : List AV) (H : List Ent) (K : Kont) : Option Out → Prop
  | some ⟨c, v, w, _, _, raw⟩ => extK H (kSt T H o.dst K) (condK c (rawK te o.op v (fun v => K ⟨putT T v o.dst, putH H w⟩) raw)) (extOf te T H o.op)
  | none => wSpecial te Γ T H o.dst K o.op
def wOp (te : TE) (Γ : GE) (o : Oper) (T : List AV) (H : List Ent) (K : Kont) : Prop := opK te Γ o T H K (evOp te H.length T H o.op)

def dstAt : List Oper → Nat → Option Nat
  | [], _ => none
  | o :: _, 0 => o.dst
  | _ :: l, j + 1 => dstAt l j

/-- A guarded operation: the guard's value is told, then what is wanted. -/
def guardV (te : TE) (Γ : GE) (o : Oper) (want : Bool) (T : List AV) (H : List Ent) (d : Nat) (K : Kont) : AV → Prop
  | .bool b => ifB b
      (ifB want (wOp te Γ o (T.set d (.bool true)) H K) (K ⟨putT (T.set d (.bool true)) (.tup []) o.dst, H⟩))
      (ifB want (K ⟨putT (T.set d (.bool false)) (.tup []) o.dst, H⟩) (wOp te Γ o (T.set d (.bool false)) H K))
  | .tup [] => K ⟨putT T (.tup []) o.dst, H⟩
  | _ => False
def guardD (te : TE) (Γ : GE) (o : Oper) (want : Bool) (T : List AV) (H : List Ent) (K : Kont) : Option Nat → Prop
  | some d => guardV te Γ o want T H d K (T.getD d .junk)
  | none => False
def wGuard (te : TE) (Γ : GE) (all : List Oper) (o : Oper) (T : List AV) (H : List Ent) (K : Kont) : Option (Nat × Bool) → Prop
  | none => wOp te Γ o T H K
  | some (j, want) => guardD te Γ o want T H K (dstAt all j)

/-- Operations in the order of the text. -/
def wSeq (te : TE) (Γ : GE) (all : List Oper) : List Oper → St → Kont → Prop
  | [], s, K => K s
  | o :: rest, s, K => wGuard te Γ all o s.T s.H (fun s' => wSeq te Γ all rest s' K) o.guard
def kSeq (te : TE) (Γ : GE) (all rest : List Oper) (K : Kont) : Kont := fun s => wSeq te Γ all rest s K

/-- What an operation of a region whose order is open has touched: written, read. -/
structure Foot where
  w : List Nat
  r : List Nat

def fsts : List (Nat × Ent) → List Nat
  | [] => []
  | (q, _) :: w => q :: fsts w

def placeOf : AV → List Nat
  | .own p _ _ => [p]
  | .osub p _ _ _ => [p]
  | .ptr p _ => [p]
  | .eptr p _ _ _ => [p]
  | .agg _ => []
  | .tup _ => []
  | .junk => []
  | .int .. => []
  | .bool _ => []
  | .str _ => []
  | .fn _ => []
  | .sl .. => []
  | .rptr .. => []
def placesOf (T : List AV) : List Operand → List Nat
  | [] => []
  | x :: xs => placeOf (ev T x) ++ placesOf T xs
/-- The places that an operation's evaluation looks at. -/
def opReads (T : List AV) : Op → List Nat
  | .load _ a => placeOf (ev T a)
  | .store _ a _ => placeOf (ev T a)
  | .indexAddr _ x _ => placeOf (ev T x)
  | .slice _ x _ _ _ => placeOf (ev T x)
  | .call ⟨.builtin _, args, _⟩ => placesOf T args.toList
  | _ => []

abbrev KontF := St → Foot → Prop

def isNone : Ent → Bool
  | .none => true
  | .var _ => false
  | .arr .. => false
def placesIn (H : List Ent) : List Nat → Bool
  | [] => true
  | q :: qs => andB (lenLe (q + 1) H) (placesIn H qs)
/-- The reserved place is free; what is written is there. -/
def drOK (p : Nat) (H : List Ent) (w : List (Nat × Ent)) : Bool := andB (isNone (H.getD p .none)) (placesIn H (p :: fsts w))

def drDat (D : DSpec) (p : Nat) (T : List AV) (H : List Ent) (dst : Option Nat) (K : KontF) : Bool → Rs (List AV) → Prop
  | false, some (_, xs) => ∃ r e, D xs (fun r' e' => r' = r ∧ e' = e) ∧ ifB (drOK p H (pushE p e)) (K ⟨putT T (mvR p r) dst, putH H (pushE p e)⟩ ⟨p :: fsts (pushE p e), []⟩) False
  | _, _ => False
def drFn (C : List AV → Prop) (g : List AV → AV) (p : Nat) (T : List AV) (H : List Ent) (dst : Option Nat) (K : KontF) : Bool → Rs (List AV) → Prop
  | false, some (_, xs) => C xs ∧ ifB (drOK p H []) (K ⟨putT T (mvR p (g xs)) dst, H⟩ ⟨[p], []⟩) False
  | _, _ => False
def drCall (p : Nat) (T : List AV) (H : List Ent) (dst : Option Nat) (args : List AV) (K : KontF) : Option Spec → Prop
  | some (.dat D) => drDat D p T H dst K (namesA args) (rslvL H args)
  | some (.fn C g) => drFn C g p T H dst K (namesA args) (rslvL H args)
  | _ => False
def drSpecial (te : TE) (Γ : GE) (p : Nat) (T : List AV) (H : List Ent) (dst : Option Nat) (K : KontF) : Op → Prop
  | .call ⟨.value f, args, tys⟩ => drCall p T H dst (evs te T args.toList tys.toList) K (calleeOf Γ (ev T f))
  | _ => False
/-- One operation where the order is open: all that it comes to is told. -/
def drK (te : TE) (Γ : GE) (p : Nat) (o : Oper) (T : List AV) (H : List Ent) (K : KontF) : Option Out → Prop
  | some ⟨c, v, w, _, _, raw⟩ => ifB (drOK p H w) (condK c (rawK te o.op v (fun v => K ⟨putT T v o.dst, putH H w⟩ ⟨p :: fsts w, opReads T o.op⟩) raw)) False
  | none => drSpecial te Γ p T H o.dst K o.op
def wDrOp (te : TE) (Γ : GE) (p : Nat) (o : Oper) (T : List AV) (H : List Ent) (K : KontF) : Prop := drK te Γ p o T H K (evOp te p T H o.op)

def drGuardV (te : TE) (Γ : GE) (p : Nat) (o : Oper) (want : Bool) (T : List AV) (H : List Ent) (d : Nat) (K : KontF) : AV → Prop
  | .bool b => ifB b
      (ifB want (wDrOp te Γ p o (T.set d (.bool true)) H K) (K ⟨putT (T.set d (.bool true)) .junk o.dst, H⟩ ⟨[], []⟩))
      (ifB want (K ⟨putT (T.set d (.bool false)) .junk o.dst, H⟩ ⟨[], []⟩) (wDrOp te Γ p o (T.set d (.bool false)) H K))
  | _ => False
def drGuardD (te : TE) (Γ : GE) (p : Nat) (o : Oper) (want : Bool) (T : List AV) (H : List Ent) (K : KontF) : Option Nat → Prop
  | some d => drGuardV te Γ p o want T H d K (T.getD d .junk)
  | none => False
def drGuard (te : TE) (Γ : GE) (all : List Oper) (p : Nat) (o : Oper) (T : List AV) (H : List Ent) (K : KontF) : Option (Nat × Bool) → Prop
  | none => wDrOp te Γ p o T H K
  | some (j, want) => drGuardD te Γ p o want T H K (dstAt all j)

def wDr (te : TE) (Γ : GE) (all : List Oper) : List Oper → Nat → List Foot → (St → List Foot → Prop) → St → Prop
  | [], _, done, K, s => K s done
  | o :: rest, p, done, K, s => drGuard te Γ all p o s.T s.H (fun s' f => wDr te Γ all rest (p + 1) (f :: done) K s') o.guard
def kDr (te : TE) (Γ : GE) (all rest : List Oper) (p : Nat) (done : List Foot) (K : St → List Foot → Prop) : KontF := fun s f => wDr te Γ all rest (p + 1) (f :: done) K s

/-! What can be said of a region without running it. -/

/-- Does operation i come before one that has these edges, in every order? 'acc' tells it of those in front. -/
def befEdge (acc : List (List Bool)) (i : Nat) (e : Edge) : Bool := Region.binds .any e && (e.on == i || (acc.getD e.on []).getD i false)
def befOne (acc : List (List Bool)) (o : Oper) : List Bool := (List.range acc.length).map fun i => o.after.toList.any (befEdge acc i)
def befGo (acc : List (List Bool)) : List Oper → List (List Bool)
  | [] => acc
  | o :: ops => befGo (acc ++ [befOne acc o]) ops
/-- Which operations come before which in every order: the edges that bind, and what follows of them. -/
def befores (ops : List Oper) : List (List Bool) := befGo [] ops

/-- From here on each operation comes after all in front of it. -/
def freeM (b : List (List Bool)) : Nat := (b.reverse.dropWhile (·.all id)).length

def apartRow (all : Array Oper) (oj : Oper) : List Oper → List Bool → Bool
  | [], _ => true
  | _ :: ops, true :: bs => apartRow all oj ops bs
  | o :: ops, false :: bs => Oper.apart all o oj && Oper.apart all oj o && apartRow all oj ops bs
  | _ :: _, [] => false
def statOne (all : Array Oper) (prev : List Oper) (j : Nat) (o : Oper) (bj : List Bool) : Bool :=
  o.after.toList.all (fun e => !Region.binds .any e || decide (e.on < j)) &&
  (match o.guard with
    | none => true
    | some (g, _) => bj.getD g false) &&
  apartRow all o prev bj
def statGo (all : Array Oper) (prev : List Oper) (j : Nat) : List Oper → List (List Bool) → Bool
  | [], _ => true
  | o :: ops, bj :: bs => statOne all prev j o bj && statGo all (prev ++ [o]) (j + 1) ops bs
  | _ :: _, [] => false
/-- Of each two operations whose order is open: they don't touch each other's temporaries. -/
def staticOK (ops : List Oper) (b : List (List Bool)) : Bool := statGo ops.toArray [] 0 ops b

def memN (x : Nat) : List Nat → Bool
  | [] => false
  | y :: l => orB (eqb x y) (memN x l)
def disj : List Nat → List Nat → Bool
  | [], _ => true
  | x :: a, b => andB (ifN (memN x b)) (disj a b)
where ifN : Bool → Bool
  | true => false
  | false => true

def footOK (f g : Foot) : Bool := andB (disj f.w g.w) (andB (disj f.w g.r) (disj f.r g.w))

def dynRow (f : Foot) : List Foot → List Bool → Bool
  | [], _ => true
  | _ :: gs, true :: bs => dynRow f gs bs
  | g :: gs, false :: bs => andB (footOK g f) (dynRow f gs bs)
  | _ :: _, [] => false
def dynGo (prev : List Foot) : List Foot → List (List Bool) → Bool
  | [], _ => true
  | f :: fs, bj :: bs => andB (dynRow f prev bj) (dynGo (prev ++ [f]) fs bs)
  | _ :: _, [] => false
/-- Of each two operations whose order is open: they don't touch each other's places. 'done' bears the last operation first. -/
def dynOK (done : List Foot) (b : List (List Bool)) : Bool := dynGo [] done.reverse b

def takeL {α : Type} : Nat → List α → List α
  | 0, _ => []
  | _ + 1, [] => []
  | n + 1, x :: l => x :: takeL n l
def dropL {α : Type} : Nat → List α → List α
  | 0, l => l
  | _ + 1, [] => []
  | n + 1, _ :: l => dropL n l

def nones : Nat → List Ent
  | 0 => []
  | n + 1 => .none :: nones n

def kDraw (te : TE) (Γ : GE) (all : List Oper) (m : Nat) (b : List (List Bool)) (K : Kont) : St → List Foot → Prop :=
  fun s done => ifB (dynOK done b) (wSeq te Γ all (dropL m all) s K) False
def wDrawM (te : TE) (Γ : GE) (all : List Oper) (b : List (List Bool)) (m : Nat) (s : St) (K : Kont) : Prop :=
  ifB (staticOK all b) (wDr te Γ all (takeL m all) s.H.length [] (kDraw te Γ all m b K) ⟨s.T, s.H ++ nones m⟩) False
/-- A region that draws its order. -/
def wDraw (te : TE) (Γ : GE) (all : List Oper) (s : St) (K : Kont) : Prop := wDrawM te Γ all (befores all) (freeM (befores all)) s K

inductive Ex where
  | normal
  | exit (id : Nat)
  | ret

/-- Forget: the slots that are not kept, and what lies in the memory from a place on. -/
def maskT : List Bool → List AV → List AV
  | true :: k, v :: T => v :: maskT k T
  | false :: k, _ :: T => .junk :: maskT k T
  | [], _ :: T => .junk :: maskT [] T
  | _, [] => []

def below1 (n : Nat) : AV → Bool
  | .own q _ _ => leb (q + 1) n
  | .osub q _ _ _ => leb (q + 1) n
  | .ptr q _ => leb (q + 1) n
  | .eptr q _ _ _ => leb (q + 1) n
  | .agg _ => false
  | .tup _ => false
  | .junk => true
  | .int .. => true
  | .bool _ => true
  | .str _ => true
  | .fn _ => true
  | .sl .. => true
  | .rptr .. => true
def belowL (n : Nat) : List AV → Bool
  | [] => true
  | v :: vs => andB (below1 n v) (belowL n vs)
def below (n : Nat) : AV → Bool
  | .agg cs => belowL n cs
  | .own q _ _ => leb (q + 1) n
  | .osub q _ _ _ => leb (q + 1) n
  | .ptr q _ => leb (q + 1) n
  | .eptr q _ _ _ => leb (q + 1) n
  | .tup _ => false
  | .junk => true
  | .int .. => true
  | .bool _ => true
  | .str _ => true
  | .fn _ => true
  | .sl .. => true
  | .rptr .. => true
def belowT (n : Nat) : List AV → Bool
  | [] => true
  | v :: vs => andB (below n v) (belowT n vs)
def belowE (n : Nat) : Ent → Bool
  | .none => true
  | .var cs => belowT n cs
  | .arr cl _ _ _ _ => cl
def belowH (n : Nat) : List Ent → Bool
  | [] => true
  | e :: H => andB (belowE n e) (belowH n H)

def cut (keep : List Bool) (nh : Nat) (s : St) : St := ⟨maskT keep s.T, takeL nh s.H⟩
def cutOK (keep : List Bool) (nh : Nat) (s : St) : Bool := andB (lenLe nh s.H) (andB (belowT nh (maskT keep s.T)) (belowH nh (takeL nh s.H)))

abbrev KontX := Ex → St → Prop

def seqQ (f : St → KontX → Prop) (Q : KontX) : KontX
  | .normal, s => f s Q
  | .exit i, s => Q (.exit i) s
  | .ret, s => Q .ret s
def exitQ (i : Nat) (Q : KontX) (s : St) : Bool → Prop
  | true => Q .normal s
  | false => Q (.exit i) s
def blkQ (id : Nat) (Q : KontX) : KontX
  | .normal, s => Q .normal s
  | .exit i, s => exitQ i Q s (eqb i id)
  | .ret, s => Q .ret s
def roundQ (keep : List Bool) (nh : Nat) (I : Nat → St → Prop) (n : Nat) (Q : KontX) : KontX
  | .normal, s => cutOK keep nh s = true ∧ ∃ m, m < n ∧ I m (cut keep nh s)
  | .exit i, s => cutOK keep nh s = true ∧ Q (.exit i) (cut keep nh s)
  | .ret, s => Q .ret s
def kNormal (Q : KontX) : Kont := fun s => Q .normal s
def condV (A B : Prop) : AV → Prop
  | .bool b => ifB b A B
  | _ => False
def wRegion (te : TE) (Γ : GE) (ops : List Oper) (s : St) (K : Kont) : Bool → Prop
  | false => wSeq te Γ ops ops s K
  | true => wDraw te Γ ops s K

/-- A loop: what is kept, what holds at the head of each round. -/
def wLoop (fl : Nat) (body : St → KontX → Prop) (s : St) (Q : KontX) : Prop :=
  ∃ (keep : List Bool) (nh : Nat) (I : Nat → St → Prop), fl ≤ nh ∧ (cutOK keep nh s = true ∧ ∃ n, I n (cut keep nh s)) ∧ ∀ n s1, I n s1 → body s1 (roundQ keep nh I n Q)

def wCode (te : TE) (Γ : GE) (fl : Nat) : Code → St → KontX → Prop
  | .skip, s, Q => Q .normal s
  | .region _ ops dr, s, Q => wRegion te Γ ops.toList s (kNormal Q) dr
  | .seq a b, s, Q => wCode te Γ fl a s (seqQ (wCode te Γ fl b) Q)
  | .cond c a b, s, Q => condV (wCode te Γ fl a s Q) (wCode te Γ fl b s Q) (ev s.T c)
  | .block id c, s, Q => wCode te Γ fl c s (blkQ id Q)
  | .loop c, s, Q => wLoop fl (wCode te Γ fl c) s Q
  | .exit i, s, Q => Q (.exit i) s
  | .ret, s, Q => Q .ret s
  | _, _, _ => False

/-- A piece of a function's code. -/
def codeFst : Code → Code
  | .seq a _ => a
  | .cond _ a _ => a
  | .block _ c => c
  | .loop c => c
  | c => c
def codeSnd : Code → Code
  | .seq _ b => b
  | .cond _ _ b => b
  | c => c
def codeAt : List Bool → Code → Code
  | [], c => c
  | true :: l, c => codeAt l (codeFst c)
  | false :: l, c => codeAt l (codeSnd c)
def bodyAt (fn : Func) (l : List Bool) : Code := codeAt l (fn.body.getD .skip)

def outV : Option Out → Option AV
  | some ⟨none, v, _, _, _, false⟩ => some v
  | _ => none
def resOne (te : TE) (T : List AV) (H : List Ent) (t : TypeId) : ResultVar → Option AV
  | .tmp i => some (rty te t (T.getD i .junk))
  | .cell a t => outV (evLoadT H (T.getD a .junk) (te t))
def consO : Option AV → Option (List AV) → Option (List AV)
  | some v, some vs => some (v :: vs)
  | _, _ => none
def resAll (te : TE) (T : List AV) (H : List Ent) : List TypeId → List ResultVar → Option (List AV)
  | _, [] => some []
  | [], _ :: _ => none
  | t :: ts, r :: rs => consO (resOne te T H t r) (resAll te T H ts rs)
def resV : Option (List AV) → Option AV
  | some [v] => some v
  | some [] => some (.tup [])
  | some (v :: u :: vs) => some (.tup (v :: u :: vs))
  | none => none
def resK (Φ : AV → List Ent → Prop) (H : List Ent) : Option AV → Prop
  | some v => Φ v H
  | none => False
def endQ (te : TE) (fn : Func) (Φ : AV → List Ent → Prop) : KontX
  | .normal, s => resK Φ s.H (resV (resAll te s.T s.H fn.resultTypes.toList fn.results.toList))
  | .ret, s => resK Φ s.H (resV (resAll te s.T s.H fn.resultTypes.toList fn.results.toList))
  | .exit _, _ => False

def padTo : Nat → List AV → List AV
  | 0, _ => []
  | n + 1, [] => .junk :: padTo n []
  | n + 1, v :: vs => v :: padTo n vs

def wBody (te : TE) (Γ : GE) (fn : Func) (args : List AV) (H : List Ent) (Φ : AV → List Ent → Prop) : Option Code → Prop
  | some c => wCode te Γ H.length c ⟨padTo fn.ntmps args, H⟩ (endQ te fn Φ)
  | none => False
/-- A function's body, its arguments given. -/
def wFunB (te : TE) (Γ : GE) (fn : Func) (args : List AV) (H : List Ent) (Φ : AV → List Ent → Prop) : Bool → Prop
  | true => wBody te Γ fn args H Φ fn.body
  | false => False
def wFun (te : TE) (Γ : GE) (fn : Func) : GSpec := fun args H Φ => wFunB te Γ fn args H Φ (leb args.length fn.ntmps)

def datR (Φ : AV → Ent → Prop) : Rs AV → Prop
  | some (c, x) => condK c (Φ x .none)
  | none => False
/-- At the end of a function under a contract on data. -/
def datFin (Φ : AV → Ent → Prop) : AV → List Ent → Prop := fun r H => datR Φ (rslvR H r)

end Go.Rf
