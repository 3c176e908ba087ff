/-
  RUNNING, part 3: the temporaries as a tree, so that the kernel reads and writes them fast: definitions.
-/
import Derived.Test.YtdojencjbmahpaaGreatDoorRhB
set_option linter.unusedVariables false
set_option linter.unusedSimpArgs false
namespace Go.Rf

inductive TT where
  | leaf
  | node (v : AV) (l r : TT)

noncomputable def sel {α : Type} (i : Nat) (a b c : α) : α :=
  Bool.rec (motive := fun _ => α) (Bool.rec (motive := fun _ => α) c b (Nat.beq (Nat.mod i 2) 1)) a (Nat.beq i 0)
noncomputable def fget (t : TT) : Nat → AV :=
  TT.rec (motive := fun _ => Nat → AV) (fun _ => AV.junk) (fun v _ _ il ir i => sel i v (il (Nat.div i 2)) (ir (Nat.pred (Nat.div i 2)))) t
noncomputable def fset (f : Nat) : Nat → AV → TT → TT :=
  Nat.rec (motive := fun _ => Nat → AV → TT → TT) (fun _ _ t => t)
    (fun _ ih i v t => TT.rec (motive := fun _ => TT)
      (sel i (.node v .leaf .leaf) (.node .junk (ih (Nat.div i 2) v .leaf) .leaf) (.node .junk .leaf (ih (Nat.pred (Nat.div i 2)) v .leaf)))
      (fun u l r _ _ => sel i (.node v l r) (.node u (ih (Nat.div i 2) v l) r) (.node u l (ih (Nat.pred (Nat.div i 2)) v r))) t) f
noncomputable def fput (n : Nat) (t : TT) (v : AV) : Option Nat → TT
  | some d => Bool.rec (motive := fun _ => TT) t (fset 12 d v t) (Nat.blt d n)
  | none => t
noncomputable def treeOf : List AV → Nat → TT → TT
  | [], _, t => t
  | v :: vs, i, t => treeOf vs (i + 1) (fset 12 i v t)

structure FS where
  n : Nat
  T : TT
  H : List Ent
noncomputable def FS.put (s : FS) (v : AV) (dst : Option Nat) (H : List Ent) : FS := ⟨s.n, fput s.n s.T v dst, H⟩

noncomputable def evT (t : TT) : Operand → AV
  | .tmp i => fget t i
  | .const v => avOf v
  | .func f => .fn f
  | .global _ => .junk
def evsE (te : TE) (E : Operand → AV) : List Operand → List TypeId → List AV
  | [], _ => []
  | x :: xs, [] => E x :: evsE te E xs []
  | x :: xs, t :: ts => rty te t (E x) :: evsE te E xs ts

noncomputable def fPutX (s : FS) (dst : Option Nat) : Option (AV × Ent) → Option FS
  | some (x, e) => some (s.put (mvR s.H.length x) dst (putH s.H (pushE s.H.length e)))
  | none => none
noncomputable def fPutXs (s : FS) (dst : Option Nat) : Option (AV × Ent) → Option FS
  | some (x, .none) => whenB (scalarB x) (some (s.put x dst s.H))
  | _ => none
noncomputable def fPutXg (s : FS) (dst : Option Nat) : Option (AV × List Ent) → Option FS
  | some (r, H') => some (s.put r dst H')
  | none => none
noncomputable def fDatCall (g : List AV → Option (AV × Ent)) (s : FS) (dst : Option Nat) : Bool → Rs (List AV) → Option FS
  | false, some (_, xs) => fPutX s dst (g xs)
  | true, some (c, xs) => whenB (okC c) (fPutXs s dst (g xs))
  | _, none => none
noncomputable def fCall (s : FS) (dst : Option Nat) (args : List AV) : Option XS → Option FS
  | some (.dat g) => fDatCall g s dst (namesA args) (rslvL s.H args)
  | some (.gen g) => fPutXg s dst (g args s.H)
  | none => none
noncomputable def fPutO (s : FS) (dst : Option Nat) : Option Out → Option FS
  | some ⟨c, v, w, _, _, _⟩ => whenB (okC c) (some (s.put v dst (putH s.H w)))
  | none => none
noncomputable def fApp2 (s : FS) (dst : Option Nat) (x : AV) (k : Option Cont) (i : TI) : Option FS := orO (fPutO s dst (evAppendIn s.H i.size x k)) (fPutO s dst (evAppendOut s.H.length s.H i.size i.bytes x k))
noncomputable def fApp (s : FS) (dst : Option Nat) (x y : AV) (t2 : Option TI) : Option TI → Option FS
  | some i => fApp2 s dst x (appArg s.H i t2 y) i
  | none => none
noncomputable def fBuiltin (te : TE) (s : FS) (dst : Option Nat) : Builtin → List Operand → List TypeId → Option FS
  | .append, [x, y], [t, u] => fApp s dst (evT s.T x) (evT s.T y) (te u) (elemI te (te t))
  | _, _, _ => none
noncomputable def fNil (s : FS) (dst : Option Nat) (neq : Bool) : AV → Option FS
  | .sl _ _ (_ :: _) => some (s.put (.bool (notIf neq false)) dst s.H)
  | .own _ _ (_ + 1) => some (s.put (.bool (notIf neq false)) dst s.H)
  | _ => none
noncomputable def fBin (s : FS) (dst : Option Nat) (x : AV) (nil : Bool) : BinOp → Option FS
  | .eql => whenB nil (fNil s dst false x)
  | .neq => whenB nil (fNil s dst true x)
  | _ => none
noncomputable def fSpecial (te : TE) (X : XE) (s : FS) (dst : Option Nat) : Op → Option FS
  | .call ⟨.value f, args, tys⟩ => fCall s dst (evsE te (evT s.T) args.toList tys.toList) (xCallee X (evT s.T f))
  | .call ⟨.builtin b, args, tys⟩ => fBuiltin te s dst b args.toList tys.toList
  | .binOp op t x y _ => fBin s dst (evT s.T x) (andB (isSlice (te t)) (isNilConst y)) op
  | _ => none
noncomputable def fPutR (te : TE) (o : Oper) (s : FS) : Out → Option FS
  | ⟨c, v, w, _, _, raw⟩ => whenB (andB (okC c) (rawB te o.op v raw)) (some (s.put v o.dst (putH s.H w)))
noncomputable def fOpK (te : TE) (X : XE) (o : Oper) (s : FS) : Option Out → Option FS
  | some out => fPutR te o s out
  | none => fSpecial te X s o.dst o.op
noncomputable def fOp (te : TE) (X : XE) (o : Oper) (s : FS) : Option FS := fOpK te X o s (evOpE te s.H.length (evT s.T) s.H o.op)

noncomputable def fGuardV (te : TE) (X : XE) (o : Oper) (want : Bool) (s : FS) : AV → Option FS
  | .bool b => xIf (sameB b want) (fOp te X o s) (some (s.put (.tup []) o.dst s.H))
  | .tup [] => some (s.put (.tup []) o.dst s.H)
  | _ => none
noncomputable def fGuardD (te : TE) (X : XE) (o : Oper) (want : Bool) (s : FS) : Option Nat → Option FS
  | some d => fGuardV te X o want s (fget s.T d)
  | none => none
noncomputable def fGuard (te : TE) (X : XE) (all : List Oper) (o : Oper) (s : FS) : Option (Nat × Bool) → Option FS
  | none => fOp te X o s
  | some (j, want) => fGuardD te X o want s (dstAt all j)
def bindF' (f : FS → Option FS) : Option FS → Option FS
  | some s => f s
  | none => none
noncomputable def fSeq (te : TE) (X : XE) (all : List Oper) (l : List Oper) : FS → Option FS :=
  List.rec (motive := fun _ => FS → Option FS) (fun s => some s) (fun o _ ih s => bindF' ih (fGuard te X all o s o.guard)) l

abbrev FF := Option (FS × Foot)
def placesOfE (E : Operand → AV) : List Operand → List Nat
  | [] => []
  | x :: xs => placeOf (E x) ++ placesOfE E xs
def opReadsE (E : Operand → AV) : Op → List Nat
  | .load _ a => placeOf (E a)
  | .store _ a _ => placeOf (E a)
  | .indexAddr _ x _ => placeOf (E x)
  | .slice _ x _ _ _ => placeOf (E x)
  | .call ⟨.builtin _, args, _⟩ => placesOfE E args.toList
  | _ => []
noncomputable def gPut (te : TE) (p : Nat) (s : FS) (o : Oper) : Option Out → FF
  | some ⟨c, v, w, _, _, raw⟩ => whenB (andB (drOK p s.H w) (andB (okC c) (rawB te o.op v raw))) (some (s.put v o.dst (putH s.H w), ⟨p :: fsts w, opReadsE (evT s.T) o.op⟩))
  | none => none
noncomputable def gX (p : Nat) (s : FS) (dst : Option Nat) : Option (AV × Ent) → FF
  | some (x, e) => whenB (drOK p s.H (pushE p e)) (some (s.put (mvR p x) dst (putH s.H (pushE p e)), ⟨p :: fsts (pushE p e), []⟩))
  | none => none
noncomputable def gXD (g : List AV → Option (AV × Ent)) (p : Nat) (s : FS) (dst : Option Nat) : Bool → Rs (List AV) → FF
  | false, some (_, xs) => gX p s dst (g xs)
  | _, _ => none
noncomputable def gXC (p : Nat) (s : FS) (dst : Option Nat) (args : List AV) : Option XS → FF
  | some (.dat g) => gXD g p s dst (namesA args) (rslvL s.H args)
  | _ => none
noncomputable def gXS (te : TE) (X : XE) (p : Nat) (s : FS) (dst : Option Nat) : Op → FF
  | .call ⟨.value f, args, tys⟩ => gXC p s dst (evsE te (evT s.T) args.toList tys.toList) (xCallee X (evT s.T f))
  | _ => none
noncomputable def gXK (te : TE) (X : XE) (p : Nat) (o : Oper) (s : FS) : Option Out → FF
  | some out => gPut te p s o (some out)
  | none => gXS te X p s o.dst o.op
noncomputable def gXO (te : TE) (X : XE) (p : Nat) (o : Oper) (s : FS) : FF := gXK te X p o s (evOpE te p (evT s.T) s.H o.op)
noncomputable def gXGV (te : TE) (X : XE) (p : Nat) (o : Oper) (want : Bool) (s : FS) : AV → FF
  | .bool b => xIf (sameB b want) (gXO te X p o s) (some (s.put .junk o.dst s.H, ⟨[], []⟩))
  | _ => none
noncomputable def gXGD (te : TE) (X : XE) (p : Nat) (o : Oper) (want : Bool) (s : FS) : Option Nat → FF
  | some d => gXGV te X p o want s (fget s.T d)
  | none => none
noncomputable def gXG (te : TE) (X : XE) (all : List Oper) (p : Nat) (o : Oper) (s : FS) : Option (Nat × Bool) → FF
  | none => gXO te X p o s
  | some (j, want) => gXGD te X p o want s (dstAt all j)
def bindG (f : FS → Foot → Option (FS × List Foot)) : FF → Option (FS × List Foot)
  | some (s, g) => f s g
  | none => none
noncomputable def fDr (te : TE) (X : XE) (all : List Oper) : List Oper → Nat → List Foot → FS → Option (FS × List Foot)
  | [], _, done, s => some (s, done)
  | o :: rest, p, done, s => bindG (fun s' g => fDr te X all rest (p + 1) (g :: done) s') (gXG te X all p o s o.guard)
noncomputable def fTail (te : TE) (X : XE) (all : List Oper) (m : Nat) (b : List (List Bool)) : Option (FS × List Foot) → Option FS
  | some (s, done) => whenB (dynOK done b) (fSeq te X all (dropL m all) s)
  | none => none
noncomputable def fDrawM (te : TE) (X : XE) (all : List Oper) (b : List (List Bool)) (m : Nat) (s : FS) : Option FS := fTail te X all m b (fDr te X all (takeL m all) s.H.length [] ⟨s.n, s.T, s.H ++ nones m⟩)
noncomputable def fDraw (te : TE) (X : XE) (all : List Oper) (s : FS) : Option FS := fDrawM te X all (befores all) (freeM (befores all)) s

abbrev FR := Option (Ex × FS)
noncomputable def fReg (te : TE) (X : XE) (all : List Oper) (s : FS) : Bool → Option FS
  | false => fSeq te X all all s
  | true => fDraw te X all s
def normF : Option FS → FR
  | some s => some (.normal, s)
  | none => none
def thenF (f : FS → FR) : FR → FR
  | some (.normal, s) => f s
  | some (.exit i, s) => some (.exit i, s)
  | some (.ret, s) => some (.ret, s)
  | none => none
def outOfF (id : Nat) : FR → FR
  | some (.exit i, s) => xIf (eqb i id) (some (.normal, s)) (some (.exit i, s))
  | some (.normal, s) => some (.normal, s)
  | some (.ret, s) => some (.ret, s)
  | none => none
def fLoop (body : FS → FR) : Nat → FS → FR
  | 0, _ => none
  | n + 1, s => thenF (fLoop body n) (body s)
def fCond (A B : FR) : AV → FR
  | .bool b => xIf b A B
  | _ => none
noncomputable def fCode (te : TE) (X : XE) (N : Nat) (c : Code) : FS → FR :=
  Code.rec (motive := fun _ => FS → FR)
    (fun s => some (.normal, s))
    (fun _ ops dr s => normF (fReg te X ops.toList s dr))
    (fun _ _ ia ib s => thenF ib (ia s))
    (fun c _ _ ia ib s => fCond (ia s) (ib s) (evT s.T c))
    (fun id _ ic s => outOfF id (ic s))
    (fun _ ic s => fLoop ic N s)
    (fun _ _ _ _ _ _ _ => none)
    (fun i s => some (.exit i, s))
    (fun _ _ _ => none)
    (fun _ _ => none)
    (fun _ _ => none)
    (fun s => some (.ret, s))
    (fun _ _ => none) c
noncomputable def fResOne (te : TE) (T : TT) (H : List Ent) (t : TypeId) : ResultVar → Option AV
  | .tmp i => some (rty te t (fget T i))
  | .cell a t => outV (evLoadT H (fget T a) (te t))
noncomputable def fResAll (te : TE) (T : TT) (H : List Ent) : List TypeId → List ResultVar → Option (List AV)
  | _, [] => some []
  | [], _ :: _ => none
  | t :: ts, r :: rs => consO (fResOne te T H t r) (fResAll te T H ts rs)
noncomputable def fEnd (te : TE) (fn : Func) : FR → Option (AV × List Ent)
  | some (.normal, s) => xResV s.H (resV (fResAll te s.T s.H fn.resultTypes.toList fn.results.toList))
  | some (.ret, s) => xResV s.H (resV (fResAll te s.T s.H fn.resultTypes.toList fn.results.toList))
  | some (.exit _, _) => none
  | none => none
noncomputable def fBody (te : TE) (X : XE) (N : Nat) (fn : Func) (args : List AV) (H : List Ent) : Option Code → Option (AV × List Ent)
  | some c => fEnd te fn (fCode te X N c ⟨fn.ntmps, treeOf args 0 .leaf, H⟩)
  | none => none
noncomputable def fFun (te : TE) (X : XE) (N : Nat) (fn : Func) (args : List AV) (H : List Ent) : Option (AV × List Ent) := whenB (andB (Nat.ble args.length fn.ntmps) (Nat.ble fn.ntmps 4000)) (fBody te X N fn args H fn.body)

end Go.Rf
