/-
  THE SYMBOLIC EXECUTOR, part 24: running with all data at hand: an executable form.
-/
import Derived.Test.YtdojencjbmahpaaGreatDoorRfN
set_option linter.unusedVariables false
set_option linter.unusedSimpArgs false
namespace Go.Rf

inductive XS where
  | dat (g : List AV → Option (AV × Ent))
  | gen (g : List AV → List Ent → Option (AV × List Ent))
abbrev XE := FuncId → Option XS

def XS.spec : XS → Spec
  | .dat g => .dat fun xs Φ => ∃ x e, g xs = some (x, e) ∧ Φ x e
  | .gen g => .gen fun xs H Φ => ∃ r H', g xs H = some (r, H') ∧ Φ r H'
def XE.env (X : XE) : GE := fun f => match X f with
  | some x => some x.spec
  | none => none

def decB {p : Prop} : Decidable p → Bool
  | .isTrue _ => true
  | .isFalse _ => false
def okC : Option DP → Bool
  | none => true
  | some c => decB c.d
def whenB {α : Type} : Bool → Option α → Option α
  | true, x => x
  | false, _ => none
def scalar1B : AV → Bool
  | .int .. => true
  | .bool _ => true
  | .str _ => true
  | _ => false
def scalarLB : List AV → Bool
  | [] => true
  | v :: vs => andB (scalar1B v) (scalarLB vs)
def scalarB : AV → Bool
  | .tup vs => scalarLB vs
  | v => scalar1B v

def putX (s : St) (dst : Option Nat) : Option (AV × Ent) → Option St
  | some (x, e) => some ⟨putT s.T (mvR s.H.length x) dst, putH s.H (pushE s.H.length e)⟩
  | none => none
def putXs (s : St) (dst : Option Nat) : Option (AV × Ent) → Option St
  | some (x, .none) => whenB (scalarB x) (some ⟨putT s.T x dst, s.H⟩)
  | _ => none
def putXg (s : St) (dst : Option Nat) : Option (AV × List Ent) → Option St
  | some (r, H') => some ⟨putT s.T r dst, H'⟩
  | none => none
def xDatCall (g : List AV → Option (AV × Ent)) (s : St) (dst : Option Nat) : Bool → Rs (List AV) → Option St
  | false, some (_, xs) => putX s dst (g xs)
  | true, some (c, xs) => whenB (okC c) (putXs s dst (g xs))
  | _, none => none
def xCall (s : St) (dst : Option Nat) (args : List AV) : Option XS → Option St
  | some (.dat g) => xDatCall g s dst (namesA args) (rslvL s.H args)
  | some (.gen g) => putXg s dst (g args s.H)
  | none => none
def xCallee (X : XE) : AV → Option XS
  | .fn g => X g
  | _ => none

def putO (s : St) (dst : Option Nat) : Option Out → Option St
  | some ⟨c, v, w, _, _, _⟩ => whenB (okC c) (some ⟨putT s.T v dst, putH s.H w⟩)
  | none => none
def orO {α : Type} : Option α → Option α → Option α
  | some x, _ => some x
  | none, y => y
def xApp2 (s : St) (dst : Option Nat) (x : AV) (k : Option Cont) (i : TI) : Option St := orO (putO s dst (evAppendIn s.H i.size x k)) (putO s dst (evAppendOut s.H.length s.H i.size i.bytes x k))
def xApp (s : St) (dst : Option Nat) (x y : AV) (t2 : Option TI) : Option TI → Option St
  | some i => xApp2 s dst x (appArg s.H i t2 y) i
  | none => none
def xBuiltin (te : TE) (s : St) (dst : Option Nat) : Builtin → List Operand → List TypeId → Option St
  | .append, [x, y], [t, u] => xApp s dst (ev s.T x) (ev s.T y) (te u) (elemI te (te t))
  | _, _, _ => none
def xNil (s : St) (dst : Option Nat) (neq : Bool) : AV → Option St
  | .sl _ _ (_ :: _) => some ⟨putT s.T (.bool (notIf neq false)) dst, s.H⟩
  | .own _ _ (_ + 1) => some ⟨putT s.T (.bool (notIf neq false)) dst, s.H⟩
  | _ => none
def xBin (s : St) (dst : Option Nat) (x : AV) (nil : Bool) : BinOp → Option St
  | .eql => whenB nil (xNil s dst false x)
  | .neq => whenB nil (xNil s dst true x)
  | _ => none
def xSpecial (te : TE) (X : XE) (s : St) (dst : Option Nat) : Op → Option St
  | .call ⟨.value f, args, tys⟩ => xCall s dst (evs te s.T args.toList tys.toList) (xCallee X (ev s.T f))
  | .call ⟨.builtin b, args, tys⟩ => xBuiltin te s dst b args.toList tys.toList
  | .binOp op t x y _ => xBin s dst (ev s.T x) (andB (isSlice (te t)) (isNilConst y)) op
  | _ => none
/-- Has what was read out of a row the kinds of its type? -/
def shapeB : List AV → List AV → Bool
  | [], [] => true
  | .int k _ :: zs, .int l _ :: cs => andB (eqb (kn k) (kn l)) (shapeB zs cs)
  | .bool _ :: zs, .bool _ :: cs => shapeB zs cs
  | .str _ :: zs, .str _ :: cs => shapeB zs cs
  | .sl sz _ _ :: zs, .sl sz' false _ :: cs => andB (eqb sz sz') (shapeB zs cs)
  | _, _ => false
def shapeA (zs : List AV) : Bool → AV → Bool
  | true, .agg cs => shapeB zs cs
  | true, _ => false
  | false, .agg _ => false
  | false, v => shapeB zs [v]
def shapeT (v : AV) : Option TI → Bool
  | some i => shapeA i.zero i.kind.isAgg v
  | none => false
def rawB (te : TE) (op : Op) (v : AV) : Bool → Bool
  | true => shapeT v (te (loadTy op))
  | false => true
def putR (te : TE) (o : Oper) (s : St) : Out → Option St
  | ⟨c, v, w, _, _, raw⟩ => whenB (andB (okC c) (rawB te o.op v raw)) (some ⟨putT s.T v o.dst, putH s.H w⟩)
def xOpK (te : TE) (X : XE) (o : Oper) (s : St) : Option Out → Option St
  | some out => putR te o s out
  | none => xSpecial te X s o.dst o.op
def xOp (te : TE) (X : XE) (o : Oper) (s : St) : Option St := xOpK te X o s (evOp te s.H.length s.T s.H o.op)

def sameB : Bool → Bool → Bool
  | true, b => b
  | false, true => false
  | false, false => true
def xIf {α : Type} : Bool → α → α → α
  | true, x, _ => x
  | false, _, y => y
def xGuardV (te : TE) (X : XE) (o : Oper) (want : Bool) (s : St) : AV → Option St
  | .bool b => xIf (sameB b want) (xOp te X o s) (some ⟨putT s.T (.tup []) o.dst, s.H⟩)
  | .tup [] => some ⟨putT s.T (.tup []) o.dst, s.H⟩
  | _ => none
def xGuardD (te : TE) (X : XE) (o : Oper) (want : Bool) (s : St) : Option Nat → Option St
  | some d => xGuardV te X o want s (s.T.getD d .junk)
  | none => none
def xGuard (te : TE) (X : XE) (all : List Oper) (o : Oper) (s : St) : Option (Nat × Bool) → Option St
  | none => xOp te X o s
  | some (j, want) => xGuardD te X o want s (dstAt all j)
def bindS (f : St → Option St) : Option St → Option St
  | some s => f s
  | none => none
def xSeq (te : TE) (X : XE) (all : List Oper) : List Oper → St → Option St
  | [], s => some s
  | o :: rest, s => bindS (xSeq te X all rest) (xGuard te X all o s o.guard)

/-! Where the order is open. -/
abbrev SF := Option (St × Foot)
def drPut (te : TE) (p : Nat) (s : St) (o : Oper) : Option Out → SF
  | some ⟨c, v, w, _, _, raw⟩ => whenB (andB (drOK p s.H w) (andB (okC c) (rawB te o.op v raw))) (some (⟨putT s.T v o.dst, putH s.H w⟩, ⟨p :: fsts w, opReads s.T o.op⟩))
  | none => none
def drX (p : Nat) (s : St) (dst : Option Nat) : Option (AV × Ent) → SF
  | some (x, e) => whenB (drOK p s.H (pushE p e)) (some (⟨putT s.T (mvR p x) dst, putH s.H (pushE p e)⟩, ⟨p :: fsts (pushE p e), []⟩))
  | none => none
def drXD (g : List AV → Option (AV × Ent)) (p : Nat) (s : St) (dst : Option Nat) : Bool → Rs (List AV) → SF
  | false, some (_, xs) => drX p s dst (g xs)
  | _, _ => none
def drXC (p : Nat) (s : St) (dst : Option Nat) (args : List AV) : Option XS → SF
  | some (.dat g) => drXD g p s dst (namesA args) (rslvL s.H args)
  | _ => none
def drXS (te : TE) (X : XE) (p : Nat) (s : St) (dst : Option Nat) : Op → SF
  | .call ⟨.value f, args, tys⟩ => drXC p s dst (evs te s.T args.toList tys.toList) (xCallee X (ev s.T f))
  | _ => none
def drXK (te : TE) (X : XE) (p : Nat) (o : Oper) (s : St) : Option Out → SF
  | some out => drPut te p s o (some out)
  | none => drXS te X p s o.dst o.op
def drXO (te : TE) (X : XE) (p : Nat) (o : Oper) (s : St) : SF := drXK te X p o s (evOp te p s.T s.H o.op)
def drXGV (te : TE) (X : XE) (p : Nat) (o : Oper) (want : Bool) (s : St) : AV → SF
  | .bool b => xIf (sameB b want) (drXO te X p o s) (some (⟨putT s.T .junk o.dst, s.H⟩, ⟨[], []⟩))
  | _ => none
def drXGD (te : TE) (X : XE) (p : Nat) (o : Oper) (want : Bool) (s : St) : Option Nat → SF
  | some d => drXGV te X p o want s (s.T.getD d .junk)
  | none => none
def drXG (te : TE) (X : XE) (all : List Oper) (p : Nat) (o : Oper) (s : St) : Option (Nat × Bool) → SF
  | none => drXO te X p o s
  | some (j, want) => drXGD te X p o want s (dstAt all j)
def bindF (f : St → Foot → Option (St × List Foot)) : SF → Option (St × List Foot)
  | some (s, g) => f s g
  | none => none
def xDr (te : TE) (X : XE) (all : List Oper) : List Oper → Nat → List Foot → St → Option (St × List Foot)
  | [], _, done, s => some (s, done)
  | o :: rest, p, done, s => bindF (fun s' g => xDr te X all rest (p + 1) (g :: done) s') (drXG te X all p o s o.guard)
def xTail (te : TE) (X : XE) (all : List Oper) (m : Nat) (b : List (List Bool)) : Option (St × List Foot) → Option St
  | some (s, done) => whenB (dynOK done b) (xSeq te X all (dropL m all) s)
  | none => none
def xDrawM (te : TE) (X : XE) (all : List Oper) (b : List (List Bool)) (m : Nat) (s : St) : Option St := xTail te X all m b (xDr te X all (takeL m all) s.H.length [] ⟨s.T, s.H ++ nones m⟩)
def xDraw (te : TE) (X : XE) (all : List Oper) (s : St) : Option St := xDrawM te X all (befores all) (freeM (befores all)) s

abbrev XR := Option (Ex × St)
def xReg (te : TE) (X : XE) (all : List Oper) (s : St) : Bool → Option St
  | false => xSeq te X all all s
  | true => xDraw te X all s
def norm : Option St → XR
  | some s => some (.normal, s)
  | none => none
def thenX (f : St → XR) : XR → XR
  | some (.normal, s) => f s
  | some (.exit i, s) => some (.exit i, s)
  | some (.ret, s) => some (.ret, s)
  | none => none
def outOf (id : Nat) : XR → XR
  | some (.exit i, s) => xIf (eqb i id) (some (.normal, s)) (some (.exit i, s))
  | some (.normal, s) => some (.normal, s)
  | some (.ret, s) => some (.ret, s)
  | none => none
def xLoop (body : St → XR) : Nat → St → XR
  | 0, _ => none
  | n + 1, s => thenX (xLoop body n) (body s)
def xCond (A B : XR) : AV → XR
  | .bool b => xIf b A B
  | _ => none
def xCode (te : TE) (X : XE) (N : Nat) : Code → St → XR
  | .skip, s => some (.normal, s)
  | .region _ ops dr, s => norm (xReg te X ops.toList s dr)
  | .seq a b, s => thenX (xCode te X N b) (xCode te X N a s)
  | .cond c a b, s => xCond (xCode te X N a s) (xCode te X N b s) (ev s.T c)
  | .block id c, s => outOf id (xCode te X N c s)
  | .loop c, s => xLoop (xCode te X N c) N s
  | .exit i, s => some (.exit i, s)
  | .ret, s => some (.ret, s)
  | _, _ => none
def xResV (H : List Ent) : Option AV → Option (AV × List Ent)
  | some v => some (v, H)
  | none => none
def xEnd (te : TE) (fn : Func) : XR → Option (AV × List Ent)
  | some (.normal, s) => xResV s.H (resV (resAll te s.T s.H fn.resultTypes.toList fn.results.toList))
  | some (.ret, s) => xResV s.H (resV (resAll te s.T s.H fn.resultTypes.toList fn.results.toList))
  | some (.exit _, _) => none
  | none => none
def xBody (te : TE) (X : XE) (N : Nat) (fn : Func) (args : List AV) (H : List Ent) : Option Code → Option (AV × List Ent)
  | some c => xEnd te fn (xCode te X N c ⟨padTo fn.ntmps args, H⟩)
  | none => none
def xFun (te : TE) (X : XE) (N : Nat) (fn : Func) (args : List AV) (H : List Ent) : Option (AV × List Ent) := whenB (leb args.length fn.ntmps) (xBody te X N fn args H fn.body)
def xRes : Rs AV → Option AV
  | some (c, x) => whenB (okC c) (some x)
  | none => none
def xOut : Option (AV × List Ent) → Option AV
  | some (r, H) => xRes (rslvR H r)
  | none => none
/-- A function on data. -/
def noE : Option AV → Option (AV × Ent)
  | some x => some (x, .none)
  | none => none
def xDatF (te : TE) (X : XE) (N : Nat) (fn : Func) (xs : List AV) : Option (AV × Ent) := noE (xOut (xFun te X N fn xs []))

end Go.Rf
