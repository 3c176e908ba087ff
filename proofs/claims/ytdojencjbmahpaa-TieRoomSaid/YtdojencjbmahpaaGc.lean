/-
  Texts of the proof, put together: RfX, RfY, RfZ, RgA, RgB, RgC, RhA, RhB, RhC, RhD.
-/
import Derived.Test.YtdojencjbmahpaaGb
/-
  THE SYMBOLIC EXECUTOR, part 24: running with all data at hand: an executable form.
-/
section
set_option linter.unusedVariables false
set_option linter.unusedSimpArgs false
namespace Go.Rf

inductive XS where
  | dat (g : List AV → Option (AV × Ent))
  | gen (g : List AV → List Ent → Option (AV × List Ent))
abbrev XE := FuncId → Option XS

def XS.spec : XS → Spec
  | .dat g => .dat fun xs Φ => ∃ x e, g xs = some (x, e) ∧ Φ x e
  | .gen g => .gen fun xs H Φ => ∃ r H', g xs H = some (r, H') ∧ Φ r H'
def XE.env (X : XE) : GE := fun f => match X f with
  | some x => some x.spec
  | none => none

def decB {p : Prop} : Decidable p → Bool
  | .isTrue _ => true
  | .isFalse _ => false
def okC : Option DP → Bool
  | none => true
  | some c => decB c.d
def whenB {α : Type} : Bool → Option α → Option α
  | true, x => x
  | false, _ => none
def scalar1B : AV → Bool
  | .int .. => true
  | .bool _ => true
  | .str _ => true
  | _ => false
def scalarLB : List AV → Bool
  | [] => true
  | v :: vs => andB (scalar1B v) (scalarLB vs)
def scalarB : AV → Bool
  | .tup vs => scalarLB vs
  | v => scalar1B v

def putX (s : St) (dst : Option Nat) : Option (AV × Ent) → Option St
  | some (x, e) => some ⟨putT s.T (mvR s.H.length x) dst, putH s.H (pushE s.H.length e)⟩
  | none => none
def putXs (s : St) (dst : Option Nat) : Option (AV × Ent) → Option St
  | some (x, .none) => whenB (scalarB x) (some ⟨putT s.T x dst, s.H⟩)
  | _ => none
def putXg (s : St) (dst : Option Nat) : Option (AV × List Ent) → Option St
  | some (r, H') => some ⟨putT s.T r dst, H'⟩
  | none => none
def xDatCall (g : List AV → Option (AV × Ent)) (s : St) (dst : Option Nat) : Bool → Rs (List AV) → Option St
  | false, some (_, xs) => putX s dst (g xs)
  | true, some (c, xs) => whenB (okC c) (putXs s dst (g xs))
  | _, none => none
def xCall (s : St) (dst : Option Nat) (args : List AV) : Option XS → Option St
  | some (.dat g) => xDatCall g s dst (namesA args) (rslvL s.H args)
  | some (.gen g) => putXg s dst (g args s.H)
  | none => none
def xCallee (X : XE) : AV → Option XS
  | .fn g => X g
  | _ => none

def putO (s : St) (dst : Option Nat) : Option Out → Option St
  | some ⟨c, v, w, _, _, _⟩ => whenB (okC c) (some ⟨putT s.T v dst, putH s.H w⟩)
  | none => none
def orO {α : Type} : Option α → Option α → Option α
  | some x, _ => some x
  | none, y => y
def xApp2 (s : St) (dst : Option Nat) (x : AV) (k : Option Cont) (i : TI) : Option St := orO (putO s dst (evAppendIn s.H i.size x k)) (putO s dst (evAppendOut s.H.length s.H i.size i.bytes x k))
def xApp (s : St) (dst : Option Nat) (x y : AV) (t2 : Option TI) : Option TI → Option St
  | some i => xApp2 s dst x (appArg s.H i t2 y) i
  | none => none
def xBuiltin (te : TE) (s : St) (dst : Option Nat) : Builtin → List Operand → List TypeId → Option St
  | .append, [x, y], [t, u] => xApp s dst (ev s.T x) (ev s.T y) (te u) (elemI te (te t))
  | _, _, _ => none
def xNil (s : St) (dst : Option Nat) (neq : Bool) : AV → Option St
  | .sl _ _ (_ :: _) => some ⟨putT s.T (.bool (notIf neq false)) dst, s.H⟩
  | .own _ _ (_ + 1) => some ⟨putT s.T (.bool (notIf neq false)) dst, s.H⟩
  | _ => none
def xBin (s : St) (dst : Option Nat) (x : AV) (nil : Bool) : BinOp → Option St
  | .eql => whenB nil (xNil s dst false x)
  | .neq => whenB nil (xNil s dst true x)
  | _ => none
def xSpecial (te : TE) (X : XE) (s : St) (dst : Option Nat) : Op → Option St
  | .call ⟨.value f, args, tys⟩ => xCall s dst (evs te s.T args.toList tys.toList) (xCallee X (ev s.T f))
  | .call ⟨.builtin b, args, tys⟩ => xBuiltin te s dst b args.toList tys.toList
  | .binOp op t x y _ => xBin s dst (ev s.T x) (andB (isSlice (te t)) (isNilConst y)) op
  | _ => none
/-- Has what was read out of a row the kinds of its type? -/
def shapeB : List AV → List AV → Bool
  | [], [] => true
  | .int k _ :: zs, .int l _ :: cs => andB (eqb (kn k) (kn l)) (shapeB zs cs)
  | .bool _ :: zs, .bool _ :: cs => shapeB zs cs
  | .str _ :: zs, .str _ :: cs => shapeB zs cs
  | .sl sz _ _ :: zs, .sl sz' false _ :: cs => andB (eqb sz sz') (shapeB zs cs)
  | _, _ => false
def shapeA (zs : List AV) : Bool → AV → Bool
  | true, .agg cs => shapeB zs cs
  | true, _ => false
  | false, .agg _ => false
  | false, v => shapeB zs [v]
def shapeT (v : AV) : Option TI → Bool
  | some i => shapeA i.zero i.kind.isAgg v
  | none => false
def rawB (te : TE) (op : Op) (v : AV) : Bool → Bool
  | true => shapeT v (te (loadTy op))
  | false => true
def putR (te : TE) (o : Oper) (s : St) : Out → Option St
  | ⟨c, v, w, _, _, raw⟩ => whenB (andB (okC c) (rawB te o.op v raw)) (some ⟨putT s.T v o.dst, putH s.H w⟩)
def xOpK (te : TE) (X : XE) (o : Oper) (s : St) : Option Out → Option St
  | some out => putR te o s out
  | none => xSpecial te X s o.dst o.op
def xOp (te : TE) (X : XE) (o : Oper) (s : St) : Option St := xOpK te X o s (evOp te s.H.length s.T s.H o.op)

def sameB : Bool → Bool → Bool
  | true, b => b
  | false, true => false
  | false, false => true
def xIf {α : Type} : Bool → α → α → α
  | true, x, _ => x
  | false, _, y => y
def xGuardV (te : TE) (X : XE) (o : Oper) (want : Bool) (s : St) : AV → Option St
  | .bool b => xIf (sameB b want) (xOp te X o s) (some ⟨putT s.T (.tup []) o.dst, s.H⟩)
  | .tup [] => some ⟨putT s.T (.tup []) o.dst, s.H⟩
  | _ => none
def xGuardD (te : TE) (X : XE) (o : Oper) (want : Bool) (s : St) : Option Nat → Option St
  | some d => xGuardV te X o want s (s.T.getD d .junk)
  | none => none
def xGuard (te : TE) (X : XE) (all : List Oper) (o : Oper) (s : St) : Option (Nat × Bool) → Option St
  | none => xOp te X o s
  | some (j, want) => xGuardD te X o want s (dstAt all j)
def bindS (f : St → Option St) : Option St → Option St
  | some s => f s
  | none => none
def xSeq (te : TE) (X : XE) (all : List Oper) : List Oper → St → Option St
  | [], s => some s
  | o :: rest, s => bindS (xSeq te X all rest) (xGuard te X all o s o.guard)

/-! Where the order is open. -/
abbrev SF := Option (St × Foot)
def drPut (te : TE) (p : Nat) (s : St) (o : Oper) : Option Out → SF
  | some ⟨c, v, w, _, _, raw⟩ => whenB (andB (drOK p s.H w) (andB (okC c) (rawB te o.op v raw))) (some (⟨putT s.T v o.dst, putH s.H w⟩, ⟨p :: fsts w, opReads s.T o.op⟩))
  | none => none
def drX (p : Nat) (s : St) (dst : Option Nat) : Option (AV × Ent) → SF
  | some (x, e) => whenB (drOK p s.H (pushE p e)) (some (⟨putT s.T (mvR p x) dst, putH s.H (pushE p e)⟩, ⟨p :: fsts (pushE p e), []⟩))
  | none => none
def drXD (g : List AV → Option (AV × Ent)) (p : Nat) (s : St) (dst : Option Nat) : Bool → Rs (List AV) → SF
  | false, some (_, xs) => drX p s dst (g xs)
  | _, _ => none
def drXC (p : Nat) (s : St) (dst : Option Nat) (args : List AV) : Option XS → SF
  | some (.dat g) => drXD g p s dst (namesA args) (rslvL s.H args)
  | _ => none
def drXS (te : TE) (X : XE) (p : Nat) (s : St) (dst : Option Nat) : Op → SF
  | .call ⟨.value f, args, tys⟩ => drXC p s dst (evs te s.T args.toList tys.toList) (xCallee X (ev s.T f))
  | _ => none
def drXK (te : TE) (X : XE) (p : Nat) (o : Oper) (s : St) : Option Out → SF
  | some out => drPut te p s o (some out)
  | none => drXS te X p s o.dst o.op
def drXO (te : TE) (X : XE) (p : Nat) (o : Oper) (s : St) : SF := drXK te X p o s (evOp te p s.T s.H o.op)
def drXGV (te : TE) (X : XE) (p : Nat) (o : Oper) (want : Bool) (s : St) : AV → SF
  | .bool b => xIf (sameB b want) (drXO te X p o s) (some (⟨putT s.T (.tup []) o.dst, s.H⟩, ⟨[], []⟩))
  | _ => none
def drXGD (te : TE) (X : XE) (p : Nat) (o : Oper) (want : Bool) (s : St) : Option Nat → SF
  | some d => drXGV te X p o want s (s.T.getD d .junk)
  | none => none
def drXG (te : TE) (X : XE) (all : List Oper) (p : Nat) (o : Oper) (s : St) : Option (Nat × Bool) → SF
  | none => drXO te X p o s
  | some (j, want) => drXGD te X p o want s (dstAt all j)
def bindF (f : St → Foot → Option (St × List Foot)) : SF → Option (St × List Foot)
  | some (s, g) => f s g
  | none => none
def xDr (te : TE) (X : XE) (all : List Oper) : List Oper → Nat → List Foot → St → Option (St × List Foot)
  | [], _, done, s => some (s, done)
  | o :: rest, p, done, s => bindF (fun s' g => xDr te X all rest (p + 1) (g :: done) s') (drXG te X all p o s o.guard)
def xTail (te : TE) (X : XE) (all : List Oper) (m : Nat) (b : List (List Bool)) : Option (St × List Foot) → Option St
  | some (s, done) => whenB (dynOK done b) (xSeq te X all (dropL m all) s)
  | none => none
def xDrawM (te : TE) (X : XE) (all : List Oper) (b : List (List Bool)) (m : Nat) (s : St) : Option St := xTail te X all m b (xDr te X all (takeL m all) s.H.length [] ⟨s.T, s.H ++ nones m⟩)
def xDraw (te : TE) (X : XE) (all : List Oper) (s : St) : Option St := xDrawM te X all (befores all) (freeM (befores all)) s

abbrev XR := Option (Ex × St)
def xReg (te : TE) (X : XE) (all : List Oper) (s : St) : Bool → Option St
  | false => xSeq te X all all s
  | true => xDraw te X all s
def norm : Option St → XR
  | some s => some (.normal, s)
  | none => none
def thenX (f : St → XR) : XR → XR
  | some (.normal, s) => f s
  | some (.exit i, s) => some (.exit i, s)
  | some (.ret, s) => some (.ret, s)
  | none => none
def outOf (id : Nat) : XR → XR
  | some (.exit i, s) => xIf (eqb i id) (some (.normal, s)) (some (.exit i, s))
  | some (.normal, s) => some (.normal, s)
  | some (.ret, s) => some (.ret, s)
  | none => none
def xLoop (body : St → XR) : Nat → St → XR
  | 0, _ => none
  | n + 1, s => thenX (xLoop body n) (body s)
def xCond (A B : XR) : AV → XR
  | .bool b => xIf b A B
  | _ => none
def xCode (te : TE) (X : XE) (N : Nat) : Code → St → XR
  | .skip, s => some (.normal, s)
  | .region _ ops dr, s => norm (xReg te X ops.toList s dr)
  | .seq a b, s => thenX (xCode te X N b) (xCode te X N a s)
  | .cond c a b, s => xCond (xCode te X N a s) (xCode te X N b s) (ev s.T c)
  | .block id c, s => outOf id (xCode te X N c s)
  | .loop c, s => xLoop (xCode te X N c) N s
  | .exit i, s => some (.exit i, s)
  | .ret, s => some (.ret, s)
  | _, _ => none
def xResV (H : List Ent) : Option AV → Option (AV × List Ent)
  | some v => some (v, H)
  | none => none
def xEnd (te : TE) (fn : Func) : XR → Option (AV × List Ent)
  | some (.normal, s) => xResV s.H (resV (resAll te s.T s.H fn.resultTypes.toList fn.results.toList))
  | some (.ret, s) => xResV s.H (resV (resAll te s.T s.H fn.resultTypes.toList fn.results.toList))
  | some (.exit _, _) => none
  | none => none
def xBody (te : TE) (X : XE) (N : Nat) (fn : Func) (args : List AV) (H : List Ent) : Option Code → Option (AV × List Ent)
  | some c => xEnd te fn (xCode te X N c ⟨padTo fn.ntmps args, H⟩)
  | none => none
def xFun (te : TE) (X : XE) (N : Nat) (fn : Func) (args : List AV) (H : List Ent) : Option (AV × List Ent) := whenB (leb args.length fn.ntmps) (xBody te X N fn args H fn.body)
def xRes : Rs AV → Option AV
  | some (c, x) => whenB (okC c) (some x)
  | none => none
def xOut : Option (AV × List Ent) → Option AV
  | some (r, H) => xRes (rslvR H r)
  | none => none
/-- A function on data. -/
def noE : Option AV → Option (AV × Ent)
  | some x => some (x, .none)
  | none => none
def xDatF (te : TE) (X : XE) (N : Nat) (fn : Func) (xs : List AV) : Option (AV × Ent) := noE (xOut (xFun te X N fn xs []))

end Go.Rf
end
/-
  THE SYMBOLIC EXECUTOR, part 25: the executable form is sound.
-/
section
set_option linter.unusedVariables false
set_option linter.unusedSimpArgs false
namespace Go.Rf

section
variable {P : Program} {w : World} {S : Nat → Prop} {ρ : Reg}

theorem okC_true {c : Option DP} (h : okC c = true) : condK c True := by
  cases c with
  | none => trivial
  | some c =>
    simp only [okC] at h
    cases hd : c.d with
    | isTrue hp => exact ⟨hp, trivial⟩
    | isFalse hp => rw [hd] at h; cases h
theorem whenB_some {α : Type} {b : Bool} {x : Option α} {y : α} (h : whenB b x = some y) : b = true ∧ x = some y := by cases b with | true => exact ⟨rfl, h⟩ | false => cases h
theorem condK_mk {c : Option DP} {K : Prop} (h : condK c True) (hk : K) : condK c K := by
  cases c with
  | none => exact hk
  | some c => exact ⟨h.1, hk⟩
theorem scalar1B_true {v : AV} (h : scalar1B v = true) : scalar1 v := by cases v <;> first | trivial | cases h
theorem scalarLB_true : ∀ {vs : List AV}, scalarLB vs = true → scalarL vs
  | [], _ => trivial
  | v :: vs, h => ⟨scalar1B_true (andB_true h).1, scalarLB_true (andB_true h).2⟩
theorem scalarB_true {v : AV} (h : scalarB v = true) : scalar v := by
  cases v <;> first | trivial | exact scalarLB_true h | cases h
theorem sameB_eq {a b : Bool} : sameB a b = (a == b) := by cases a <;> cases b <;> rfl

theorem env_callee {X : XE} {v : AV} {x : XS} (h : xCallee X v = some x) : calleeOf X.env v = some x.spec := by
  cases v <;> simp only [xCallee, reduceCtorEq] at h
  simp only [calleeOf, XE.env, h]

theorem xSpecial_sound {te : TE} {X : XE} {s s' : St} {dst : Option Nat} {op : Op} (h : xSpecial te X s dst op = some s') {K : Kont} (hk : K s') : wSpecial te X.env s.T s.H dst K op := by
  have hK : ∀ z, z = s' → K z := fun z hz => by rw [hz]; exact hk
  unfold xSpecial at h
  unfold wSpecial
  split at h
  · rename_i f args tys
    cases hc : xCallee X (ev s.T f) with
    | none => rw [hc] at h; cases h
    | some x =>
      rw [hc] at h
      simp only [env_callee hc]
      cases x with
      | gen g =>
        simp only [xCall, XS.spec, wCall] at h ⊢
        cases hg : g (evs te s.T args.toList tys.toList) s.H with
        | none => rw [hg] at h; cases h
        | some q =>
          obtain ⟨r, H'⟩ := q
          rw [hg] at h
          simp only [putXg, Option.some.injEq] at h
          exact ⟨r, H', rfl, hK _ h⟩
      | dat g =>
        simp only [xCall, XS.spec, wCall] at h ⊢
        cases hr : rslvL s.H (evs te s.T args.toList tys.toList) with
        | none => rw [hr] at h; cases hn : namesA (evs te s.T args.toList tys.toList) <;> rw [hn] at h <;> cases h
        | some q =>
          obtain ⟨c, xs⟩ := q
          rw [hr] at h
          cases hn : namesA (evs te s.T args.toList tys.toList) with
          | false =>
            rw [hn] at h
            simp only [xDatCall] at h
            simp only [wDat]
            cases hg : g xs with
            | none => rw [hg] at h; cases h
            | some x =>
              obtain ⟨x, e⟩ := x
              rw [hg] at h
              simp only [putX, Option.some.injEq] at h
              exact ⟨x, e, rfl, hK _ h⟩
          | true =>
            rw [hn] at h
            simp only [xDatCall] at h
            obtain ⟨h1, h2⟩ := whenB_some h
            simp only [wDat]
            refine condK_mk (okC_true h1) ?_
            cases hg : g xs with
            | none => rw [hg] at h2; cases h2
            | some x =>
              obtain ⟨x, e⟩ := x
              rw [hg] at h2
              cases e with
              | none =>
                simp only [putXs] at h2
                obtain ⟨h3, h4⟩ := whenB_some h2
                simp only [Option.some.injEq] at h4
                exact ⟨x, .none, rfl, ⟨scalarB_true h3, rfl⟩, hK _ h4⟩
              | _ => cases h2
  · rename_i b args tys
    unfold xBuiltin at h
    split at h
    · rename_i x y t u hargs htys
      show wBuiltin te s.T s.H (kSt s.T s.H dst K) .append args.toList tys.toList
      rw [hargs, htys]
      simp only [wBuiltin]
      cases hi : elemI te (te t) with
      | none => rw [hi] at h; cases h
      | some i =>
        rw [hi] at h
        simp only [xApp, xApp2] at h
        simp only [wApp, wApp2]
        have hput : ∀ o, putO s dst o = some s' → outK (kSt s.T s.H dst K) o := by
          intro o ho
          cases o with
          | none => cases ho
          | some out =>
            obtain ⟨c, v, wr, r, x, raw⟩ := out
            simp only [putO] at ho
            obtain ⟨h1, h2⟩ := whenB_some ho
            simp only [Option.some.injEq] at h2
            exact condK_mk (okC_true h1) (hK _ h2)
        cases ho : putO s dst (evAppendIn s.H i.size (ev s.T x) (appArg s.H i (te u) (ev s.T y))) with
        | some z =>
          rw [ho] at h
          simp only [orO, Option.some.injEq] at h
          subst h
          exact .inl (hput _ ho)
        | none =>
          rw [ho] at h
          exact .inr (hput _ h)
    · cases h
  · rename_i op t x y ty
    have hnil : ∀ neq nil, whenB nil (xNil s dst neq (ev s.T x)) = some s' → wNilK neq (ev s.T x) (kSt s.T s.H dst K) nil := by
      intro neq nil h
      obtain ⟨rfl, h2⟩ := whenB_some h
      simp only [wNilK]
      unfold xNil at h2
      split at h2
      · rename_i e es hx
        simp only [Option.some.injEq] at h2
        rw [hx]
        intro b hb
        cases b with
        | true => cases hb rfl
        | false => exact hK _ h2
      · rename_i n hx
        simp only [Option.some.injEq] at h2
        rw [hx]
        intro b hb
        cases b with
        | true => cases hb rfl
        | false => exact hK _ h2
      · cases h2
    cases op <;> simp only [xBin] at h <;> simp only [wBin] <;> first | exact hnil _ _ h | cases h
  · cases h

theorem shapeB_true : ∀ (zs cs : List AV) (K : List AV → Prop), shapeB zs cs = true → K cs → shape zs cs K
  | [], [], K, _, h => h
  | [], _ :: _, K, h, _ => by cases h
  | z :: zs, [], K, h, _ => by cases z <;> cases h
  | z :: zs, a :: cs, K, h, hk => by
    cases z <;> cases a <;> try (simp only [shapeB, Bool.false_eq_true] at h; done)
    case int.int k n l m =>
      simp only [shapeB] at h
      obtain ⟨h1, h2⟩ := andB_true h
      have := kn_eq h1; subst this
      exact ⟨m, rfl, shapeB_true zs cs _ h2 hk⟩
    case bool.bool b c => exact ⟨c, rfl, shapeB_true zs cs _ h hk⟩
    case str.str x y => exact ⟨y, rfl, shapeB_true zs cs _ h hk⟩
    case sl.sl sz fr es sz' fr' es' =>
      cases fr' with
      | true => cases h
      | false =>
        simp only [shapeB] at h
        obtain ⟨h1, h2⟩ := andB_true h
        have := eqb_eq h1; subst this
        exact ⟨es', rfl, shapeB_true zs cs _ h2 hk⟩
theorem rawB_true {te : TE} {op : Op} {v : AV} {K : AV → Prop} {raw : Bool} (h : rawB te op v raw = true) (hk : K v) : rawK te op v K raw := by
  cases raw with
  | false => exact hk
  | true =>
    simp only [rawB] at h
    show shapeV (te (loadTy op)) v K
    cases hi : te (loadTy op) with
    | none => rw [hi] at h; cases h
    | some i =>
      rw [hi] at h
      simp only [shapeT] at h
      cases hb : i.kind.isAgg with
      | true =>
        rw [hb] at h
        cases v <;> simp only [shapeA, Bool.false_eq_true] at h
        simp only [shapeV, hb, shapeW, shapeG]
        exact shapeB_true _ _ _ h hk
      | false =>
        rw [hb] at h
        cases v <;> simp only [shapeA, Bool.false_eq_true] at h <;> simp only [shapeV, hb, shapeW] <;> exact shapeB_true _ _ (fun r => K (r.getD 0 .junk)) h hk

theorem xOp_form {te : TE} {X : XE} {s s' : St} {o : Oper} (h : xOp te X o s = some s') {K : Kont} (hk : K s') : wOp te X.env o s.T s.H K := by
  unfold xOp at h
  unfold wOp
  cases he : evOp te s.H.length s.T s.H o.op with
  | some out =>
    rw [he] at h
    obtain ⟨c, v, wr, r, x, raw⟩ := out
    simp only [xOpK, putR] at h
    obtain ⟨h1, h2⟩ := whenB_some h
    obtain ⟨h3, h4⟩ := andB_true h1
    simp only [Option.some.injEq] at h2
    have hA : condK c (rawK te o.op v (fun v => K ⟨putT s.T v o.dst, putH s.H wr⟩) raw) := condK_mk (okC_true h3) (rawB_true (K := fun v => K ⟨putT s.T v o.dst, putH s.H wr⟩) h4 (by rw [h2]; exact hk))
    simp only [opK]
    cases extOf te s.T s.H o.op with
    | none => exact hA
    | some q => exact .inl hA
  | none =>
    rw [he] at h
    exact xSpecial_sound h hk

theorem xGuard_form {te : TE} {X : XE} {all : List Oper} {s s' : St} {o : Oper} (h : xGuard te X all o s o.guard = some s') {K : Kont} (hk : K s') : wGuard te X.env all o s.T s.H K o.guard := by
  cases hg : o.guard with
  | none => rw [hg] at h; exact xOp_form h hk
  | some g =>
    obtain ⟨j, want⟩ := g
    rw [hg] at h
    simp only [xGuard] at h
    simp only [wGuard]
    cases hd : dstAt all j with
    | none => rw [hd] at h; cases h
    | some d =>
      rw [hd] at h
      simp only [xGuardD] at h
      simp only [guardD]
      cases hT : s.T.getD d .junk with
      | bool b =>
        rw [hT] at h
        simp only [xGuardV, sameB_eq] at h
        have hself := set_self_of_getD hT (by simp)
        cases b <;> cases want <;> simp only [guardV, ifB] <;> rw [hself]
        · exact xOp_form h hk
        · have h2 : (⟨putT s.T (.tup []) o.dst, s.H⟩ : St) = s' := by simpa [xIf] using h
          rw [h2]; exact hk
        · have h2 : (⟨putT s.T (.tup []) o.dst, s.H⟩ : St) = s' := by simpa [xIf] using h
          rw [h2]; exact hk
        · exact xOp_form h hk
      | tup vs =>
        rw [hT] at h
        cases vs with
        | cons v vs => cases h
        | nil =>
          simp only [xGuardV, Option.some.injEq] at h
          simp only [guardV]
          rw [h]
          exact hk
      | _ => rw [hT] at h; cases h

theorem xSeq_form {te : TE} {X : XE} {all : List Oper} {s' : St} {K : Kont} (hk : K s') : ∀ (rest : List Oper) (s : St), xSeq te X all rest s = some s' → wSeq te X.env all rest s K
  | [], s, h => by
    simp only [xSeq, Option.some.injEq] at h
    subst h
    exact hk
  | o :: rest, s, h => by
    simp only [xSeq] at h
    cases hx : xGuard te X all o s o.guard with
    | none => rw [hx] at h; cases h
    | some s1 =>
      rw [hx] at h
      exact xGuard_form hx (xSeq_form hk rest s1 h)

theorem ifB_mk {b : Bool} {A : Prop} (h : b = true) (hA : A) : ifB b A False := by subst h; exact hA

theorem drXO_form {te : TE} {X : XE} {p : Nat} {o : Oper} {s s' : St} {f : Foot} (h : drXO te X p o s = some (s', f)) {K : KontF} (hk : K s' f) : wDrOp te X.env p o s.T s.H K := by
  unfold drXO at h
  unfold wDrOp
  cases he : evOp te p s.T s.H o.op with
  | some out =>
    rw [he] at h
    obtain ⟨c, v, wr, r, x, raw⟩ := out
    simp only [drXK, drPut] at h
    obtain ⟨h1, h2⟩ := whenB_some h
    obtain ⟨h3, h4⟩ := andB_true h1
    obtain ⟨h5, h6⟩ := andB_true h4
    simp only [Option.some.injEq, Prod.mk.injEq] at h2
    obtain ⟨rfl, rfl⟩ := h2
    simp only [drK]
    exact ifB_mk h3 (condK_mk (okC_true h5) (rawB_true (K := fun v => K ⟨putT s.T v o.dst, putH s.H wr⟩ ⟨p :: fsts wr, opReads s.T o.op⟩) h6 hk))
  | none =>
    rw [he] at h
    simp only [drXK] at h
    simp only [drK]
    unfold drXS at h
    unfold drSpecial
    split at h
    · rename_i f' args tys ho
      simp only [ho]
      cases hc : xCallee X (ev s.T f') with
      | none => rw [hc] at h; cases h
      | some x =>
        rw [hc] at h
        rw [env_callee hc]
        cases x with
        | gen g => cases h
        | dat g =>
          simp only [drXC] at h
          simp only [XS.spec, drCall]
          cases hr : rslvL s.H (evs te s.T args.toList tys.toList) with
          | none => rw [hr] at h; cases hn : namesA (evs te s.T args.toList tys.toList) <;> rw [hn] at h <;> cases h
          | some q =>
            obtain ⟨c, xs⟩ := q
            rw [hr] at h
            cases hn : namesA (evs te s.T args.toList tys.toList) with
            | true => rw [hn] at h; cases h
            | false =>
              rw [hn] at h
              simp only [drXD] at h
              simp only [drDat]
              cases hg : g xs with
              | none => rw [hg] at h; cases h
              | some x =>
                obtain ⟨x, e⟩ := x
                rw [hg] at h
                simp only [drX] at h
                obtain ⟨h1, h2⟩ := whenB_some h
                simp only [Option.some.injEq, Prod.mk.injEq] at h2
                obtain ⟨rfl, rfl⟩ := h2
                exact ⟨x, e, ⟨x, e, rfl, rfl, rfl⟩, ifB_mk h1 hk⟩
    · cases h

theorem drXG_form {te : TE} {X : XE} {all : List Oper} {p : Nat} {o : Oper} {s s' : St} {f : Foot} (h : drXG te X all p o s o.guard = some (s', f)) {K : KontF} (hk : K s' f) : drGuard te X.env all p o s.T s.H K o.guard := by
  cases hg : o.guard with
  | none => rw [hg] at h; exact drXO_form h hk
  | some g =>
    obtain ⟨j, want⟩ := g
    rw [hg] at h
    simp only [drXG] at h
    simp only [drGuard]
    cases hd : dstAt all j with
    | none => rw [hd] at h; cases h
    | some d =>
      rw [hd] at h
      simp only [drXGD] at h
      simp only [drGuardD]
      cases hT : s.T.getD d .junk with
      | bool b =>
        rw [hT] at h
        simp only [drXGV, sameB_eq] at h
        have hself := set_self_of_getD hT (by simp)
        have hskip : (some ((⟨putT s.T (.tup []) o.dst, s.H⟩ : St), (⟨[], []⟩ : Foot)) : SF) = some (s', f) → K ⟨putT s.T (.tup []) o.dst, s.H⟩ ⟨[], []⟩ := by
          intro h
          simp only [Option.some.injEq, Prod.mk.injEq] at h
          obtain ⟨rfl, rfl⟩ := h
          exact hk
        cases b <;> cases want <;> simp only [drGuardV, ifB] <;> rw [hself]
        · exact drXO_form h hk
        · exact hskip (by simpa [xIf] using h)
        · exact hskip (by simpa [xIf] using h)
        · exact drXO_form h hk
      | _ => rw [hT] at h; cases h

theorem xDr_form {te : TE} {X : XE} {all : List Oper} {K : St → List Foot → Prop} {s' : St} {fs : List Foot} (hk : K s' fs) : ∀ (ops : List Oper) (p : Nat) (done : List Foot) (s : St), xDr te X all ops p done s = some (s', fs) → wDr te X.env all ops p done K s
  | [], p, done, s, h => by
    simp only [xDr, Option.some.injEq, Prod.mk.injEq] at h
    obtain ⟨rfl, rfl⟩ := h
    exact hk
  | o :: ops, p, done, s, h => by
    simp only [xDr] at h
    cases hx : drXG te X all p o s o.guard with
    | none => rw [hx] at h; cases h
    | some q =>
      obtain ⟨s1, g⟩ := q
      rw [hx] at h
      exact drXG_form hx (xDr_form hk ops (p + 1) (g :: done) s1 h)

theorem xDraw_form {te : TE} {X : XE} {all : List Oper} (hst : staticOK all (befores all) = true) {s s' : St} (h : xDraw te X all s = some s') {K : Kont} (hk : K s') : wDraw te X.env all s K := by
  unfold xDraw xDrawM at h
  unfold wDraw wDrawM
  cases hx : xDr te X all (takeL (freeM (befores all)) all) s.H.length [] ⟨s.T, s.H ++ nones (freeM (befores all))⟩ with
  | none => rw [hx] at h; cases h
  | some q =>
    obtain ⟨s1, fs⟩ := q
    rw [hx] at h
    simp only [xTail] at h
    obtain ⟨h1, h2⟩ := whenB_some h
    exact ifB_mk hst (xDr_form (K := kDraw te X.env all (freeM (befores all)) (befores all) K) (ifB_mk h1 (xSeq_form hk _ _ h2)) _ _ _ _ hx)

/-- All regions whose order is open pass the static look. -/
def codeStat : Code → Bool
  | .region _ ops dr => xIf dr (staticOK ops.toList (befores ops.toList)) true
  | .seq a b => andB (codeStat a) (codeStat b)
  | .cond _ a b => andB (codeStat a) (codeStat b)
  | .block _ c => codeStat c
  | .loop c => codeStat c
  | _ => true

theorem xCode_sound {w0 : World} {S0 : Nat → Prop} {ρ0 : Reg} {H0 : List Ent} {fl : Nat} {te : TE} (hte : TEok P te) {X : XE} (hX : Sound P X.env) (hmix : P.follows .mixedOrders = true) {N : Nat} : ∀ (c : Code) {s s' : St} {e : Ex} {w : World} {S : Nat → Prop} {ρ : Reg} {a : Act}, codeStat c = true → xCode te X N c s = some (e, s') → RS w S ρ s a → Goes w0 S0 ρ0 H0 w S ρ s.H fl →
    c.wp P (SatX w0 S0 ρ0 H0 fl (fun e2 s2 => e2 = e ∧ s2 = s')) a w := by
  intro c
  induction c with
  | skip => intro s s' e w S ρ a hst h hs hg; simp only [xCode, Option.some.injEq, Prod.mk.injEq] at h; obtain ⟨rfl, rfl⟩ := h; exact wp_skip ⟨s, S, ρ, hs, hg, rfl, rfl⟩
  | ret => intro s s' e w S ρ a hst h hs hg; simp only [xCode, Option.some.injEq, Prod.mk.injEq] at h; obtain ⟨rfl, rfl⟩ := h; exact wp_ret ⟨s, S, ρ, hs, hg, rfl, rfl⟩
  | exit i => intro s s' e w S ρ a hst h hs hg; simp only [xCode, Option.some.injEq, Prod.mk.injEq] at h; obtain ⟨rfl, rfl⟩ := h; exact wp_exit ⟨s, S, ρ, hs, hg, rfl, rfl⟩
  | region id ops dr =>
    intro s s' e w S ρ a hst h hs hg
    simp only [xCode] at h
    cases hr : xReg te X ops.toList s dr with
    | none => rw [hr] at h; cases h
    | some s1 =>
      rw [hr] at h
      simp only [norm, Option.some.injEq, Prod.mk.injEq] at h
      obtain ⟨rfl, rfl⟩ := h
      have hw : wCode te X.env fl (.region id ops dr) s (fun e2 s2 => e2 = .normal ∧ s2 = s1) := by
        cases dr with
        | false => exact xSeq_form (K := kNormal (fun e2 s2 => e2 = .normal ∧ s2 = s1)) (show (Ex.normal = Ex.normal) ∧ s1 = s1 from ⟨rfl, rfl⟩) _ _ hr
        | true => exact xDraw_form hst hr (K := kNormal (fun e2 s2 => e2 = .normal ∧ s2 = s1)) (show (Ex.normal = Ex.normal) ∧ s1 = s1 from ⟨rfl, rfl⟩)
      exact code_sound hte hX hmix _ hw hs hg
  | seq x y ihx ihy =>
    intro s s' e w S ρ a hst h hs hg
    obtain ⟨st1, st2⟩ := andB_true hst
    simp only [xCode] at h
    cases hx : xCode te X N x s with
    | none => rw [hx] at h; cases h
    | some q =>
      obtain ⟨e1, s1⟩ := q
      rw [hx] at h
      refine wp_seq (wp_mono (ihx st1 hx hs hg) ?_)
      intro ex a' w' hq
      cases ex with
      | normal =>
        obtain ⟨s2, S2, ρ2, h1, h2, he, rfl⟩ := hq
        subst he
        simp only [thenX] at h
        exact ihy st2 h h1 h2
      | exit i =>
        obtain ⟨s2, S2, ρ2, h1, h2, he, rfl⟩ := hq
        subst he
        simp only [thenX, Option.some.injEq, Prod.mk.injEq] at h
        obtain ⟨rfl, rfl⟩ := h
        exact ⟨_, S2, ρ2, h1, h2, rfl, rfl⟩
      | ret =>
        obtain ⟨s2, S2, ρ2, h1, h2, he, rfl⟩ := hq
        subst he
        simp only [thenX, Option.some.injEq, Prod.mk.injEq] at h
        obtain ⟨rfl, rfl⟩ := h
        exact ⟨_, S2, ρ2, h1, h2, rfl, rfl⟩
      | _ => exact hq.elim
  | cond c x y ihx ihy =>
    intro s s' e w S ρ a hst h hs hg
    obtain ⟨st1, st2⟩ := andB_true hst
    simp only [xCode] at h
    have hc := hs.ev c
    generalize hev : ev s.T c = cv at h hc
    generalize hvc : a.eval c = v at hc
    cases cv <;> simp only [xCond, reduceCtorEq] at h
    rename_i b
    cases hc
    refine wp_cond hvc ?_
    cases b with
    | true => exact ihx st1 h hs hg
    | false => exact ihy st2 h hs hg
  | block id c ih =>
    intro s s' e w S ρ a hst h hs hg
    simp only [xCode] at h
    cases hx : xCode te X N c s with
    | none => rw [hx] at h; cases h
    | some q =>
      obtain ⟨e1, s1⟩ := q
      rw [hx] at h
      refine wp_block (wp_mono (ih hst hx hs hg) ?_)
      intro ex a' w' hq
      cases ex with
      | normal =>
        obtain ⟨s2, S2, ρ2, h1, h2, he, rfl⟩ := hq
        subst he
        simp only [outOf, Option.some.injEq, Prod.mk.injEq] at h
        obtain ⟨rfl, rfl⟩ := h
        exact ⟨_, S2, ρ2, h1, h2, rfl, rfl⟩
      | ret =>
        obtain ⟨s2, S2, ρ2, h1, h2, he, rfl⟩ := hq
        subst he
        simp only [outOf, Option.some.injEq, Prod.mk.injEq] at h
        obtain ⟨rfl, rfl⟩ := h
        exact ⟨_, S2, ρ2, h1, h2, rfl, rfl⟩
      | exit i =>
        obtain ⟨s2, S2, ρ2, h1, h2, he, rfl⟩ := hq
        subst he
        simp only [outOf] at h
        simp only [Exit.inBlock]
        cases hb : eqb i id with
        | true =>
          rw [hb] at h
          simp only [xIf, Option.some.injEq, Prod.mk.injEq] at h
          obtain ⟨rfl, rfl⟩ := h
          rw [if_pos (eqb_eq hb)]
          exact ⟨_, S2, ρ2, h1, h2, rfl, rfl⟩
        | false =>
          rw [hb] at h
          simp only [xIf, Option.some.injEq, Prod.mk.injEq] at h
          obtain ⟨rfl, rfl⟩ := h
          rw [if_neg (eqb_ne hb)]
          exact ⟨_, S2, ρ2, h1, h2, rfl, rfl⟩
      | _ => exact hq.elim
  | loop c ih =>
    intro s s' e w S ρ a hst h hs hg
    simp only [xCode] at h
    let Good : Nat → Act → World → Prop := fun n a w => ∃ s1 S ρ, RS w S ρ s1 a ∧ Goes w0 S0 ρ0 H0 w S ρ s1.H fl ∧ xLoop (xCode te X N c) n s1 = some (e, s')
    have hmin : ∀ a w, (∃ n, Good n a w) → ∃ n, Good n a w ∧ ∀ m, Good m a w → n ≤ m := by
      rintro a w ⟨n, hn⟩
      induction n using Nat.strongRecOn with
      | _ n ihn =>
        by_cases hex : ∃ m, m < n ∧ Good m a w
        · obtain ⟨m, hm, hg'⟩ := hex; exact ihn m hm hg'
        · exact ⟨n, hn, fun m hm => by
            rcases Nat.lt_or_ge m n with h | h
            · exact absurd ⟨m, h, hm⟩ hex
            · exact h⟩
    let μ : Act → World → Nat := fun a w => Classical.epsilon fun n => Good n a w ∧ ∀ m, Good m a w → n ≤ m
    have hμ : ∀ a w, (∃ n, Good n a w) → Good (μ a w) a w ∧ ∀ m, Good m a w → μ a w ≤ m := fun a w h => Classical.epsilon_spec (p := fun n => Good n a w ∧ ∀ m, Good m a w → n ≤ m) (hmin a w h)
    refine wp_loop (fun a w => ∃ n, Good n a w) μ ⟨N, s, S, ρ, hs, hg, h⟩ ?_
    intro a' w' hex
    obtain ⟨⟨s1, S1, ρ1, r1, r2, r3⟩, _⟩ := hμ a' w' hex
    generalize hn : μ a' w' = n at r3
    cases n with
    | zero => cases r3
    | succ n =>
      simp only [xLoop] at r3
      cases hx : xCode te X N c s1 with
      | none => rw [hx] at r3; cases r3
      | some q =>
        obtain ⟨e2, s2⟩ := q
        rw [hx] at r3
        refine wp_mono (ih hst hx r1 r2) ?_
        intro ex a'' w'' hq
        cases ex with
        | normal =>
          obtain ⟨s3, S3, ρ3, h1, h2, he, rfl⟩ := hq
          subst he
          simp only [thenX] at r3
          have hgood : Good n a'' w'' := ⟨_, S3, ρ3, h1, h2, r3⟩
          exact ⟨⟨n, hgood⟩, Nat.lt_of_le_of_lt ((hμ a'' w'' ⟨n, hgood⟩).2 n hgood) (Nat.lt_succ_self n)⟩
        | exit i =>
          obtain ⟨s3, S3, ρ3, h1, h2, he, rfl⟩ := hq
          subst he
          simp only [thenX, Option.some.injEq, Prod.mk.injEq] at r3
          obtain ⟨rfl, rfl⟩ := r3
          exact ⟨_, S3, ρ3, h1, h2, rfl, rfl⟩
        | ret =>
          obtain ⟨s3, S3, ρ3, h1, h2, he, rfl⟩ := hq
          subst he
          simp only [thenX, Option.some.injEq, Prod.mk.injEq] at r3
          obtain ⟨rfl, rfl⟩ := r3
          exact ⟨_, S3, ρ3, h1, h2, rfl, rfl⟩
        | _ => exact hq.elim
  | _ => intro s s' e w S ρ a hst h hs hg; cases h

end
end Go.Rf
end
/-
  THE SYMBOLIC EXECUTOR, part 26: functions, run with all data at hand.
-/
section
set_option linter.unusedVariables false
set_option linter.unusedSimpArgs false
namespace Go.Rf

section
variable {P : Program}

theorem xFun_sound {te : TE} (hte : TEok P te) {X : XE} (hX : Sound P X.env) (hmix : P.follows .mixedOrders = true) {f : FuncId} {fn : Func} (hf : IsFun P f fn) (hst : codeStat (fn.body.getD .skip) = true) (N : Nat) :
    GSound P f (fun args H Φ => ∃ r H', xFun te X N fn args H = some (r, H') ∧ Φ r H') := by
  intro w S ρ H xs args Φ hm hargs hw
  obtain ⟨r, H', hrun, hΦ⟩ := hw
  left
  refine ⟨run_callFunc hf args w, ?_⟩
  cases hb : fn.body with
  | none => have := hf.body; rw [hb] at this; cases this
  | some c =>
    rw [hb] at hst
    simp only [Option.getD_some] at hst
    unfold xFun at hrun
    obtain ⟨hle, hrun⟩ := whenB_some hrun
    rw [hb] at hrun
    simp only [xBody] at hrun
    have hn := leb_le hle
    cases hx : xCode te X N c ⟨padTo fn.ntmps xs, H⟩ with
    | none => rw [hx] at hrun; cases hrun
    | some q =>
      obtain ⟨e, s'⟩ := q
      rw [hx] at hrun
      refine calls_of_wp hf.at_ hb ?_
      have hs : RS w S ρ ⟨padTo fn.ntmps xs, H⟩ { tmps := args ++ Array.replicate (fn.ntmps - args.size) undef, defers := [] } := by
        refine ⟨?_, ?_, hm, rfl⟩
        · simp [padTo_length, hargs.1]; omega
        · intro i x v hx hv
          rcases padTo_get _ _ i x hx with h | rfl
          · have hi := (List.getElem?_eq_some_iff.1 h).1
            rw [Array.getElem?_append_left (by rw [hargs.1]; exact hi)] at hv
            exact hargs.2 i x v h hv
          · exact .junk _ _
      refine wp_mono (xCode_sound (w0 := w) (S0 := S) (ρ0 := ρ) (H0 := H) (fl := H.length) hte hX hmix c hst hx hs (Goes.refl w S ρ H (Nat.le_refl _))) ?_
      intro ex a' w' hq
      have fin : ∀ s S' ρ', RS w' S' ρ' s a' → Goes w S ρ H w' S' ρ' s.H H.length → xResV s.H (resV (resAll te s.T s.H fn.resultTypes.toList fn.results.toList)) = some (r, H') → a'.defers = [] ∧ ∃ v, (results fn a'.tmps).run P w' = .ok v w' ∧ GPost w S ρ H Φ v w' := by
        intro s S' ρ' h1 h2 h3
        refine ⟨h1.defers, ?_⟩
        cases hr : resV (resAll te s.T s.H fn.resultTypes.toList fn.results.toList) with
        | none => rw [hr] at h3; cases h3
        | some v =>
          rw [hr] at h3
          simp only [xResV, Option.some.injEq, Prod.mk.injEq] at h3
          obtain ⟨rfl, rfl⟩ := h3
          obtain ⟨x, k1, k2⟩ := results_sound (P := P) hte h1 fn hr
          exact ⟨x, k1, v, s.H, S', ρ', hΦ, h1.mem, k2, h2⟩
      cases ex with
      | normal => obtain ⟨s, S', ρ', h1, h2, rfl, rfl⟩ := hq; exact fin s S' ρ' h1 h2 hrun
      | ret => obtain ⟨s, S', ρ', h1, h2, rfl, rfl⟩ := hq; exact fin s S' ρ' h1 h2 hrun
      | exit i => obtain ⟨s, S', ρ', h1, h2, rfl, rfl⟩ := hq; cases hrun
      | _ => exact hq.elim

/-- From a contract on the memory to one on data. -/
theorem dat_of_gen {f : FuncId} {G : GSpec} (hG : GSound P f G) {D : DSpec} (hD : ∀ xs Φ, D xs Φ → G xs [] (datFin Φ)) : DSound P f D := by
  intro w S ρ xs args Φ hS hargs hd
  have hno : ∀ (ρ : Reg) k, ¬ Own ρ [] k := by rintro ρ k ⟨p, e, he, _⟩; simp at he
  have hm : RH w S ρ [] := ⟨by simp, by simp, fun k hk => ⟨hS k hk, hno ρ k⟩⟩
  refine CallRuns.mono (hG w S ρ [] xs args _ hm hargs (hD xs Φ hd)) ?_
  rintro v w' ⟨r, H', S', ρ', h1, h2, h3, h4⟩
  unfold datFin at h1
  cases hr : rslvR H' r with
  | none => rw [hr] at h1; cases h1
  | some q =>
    obtain ⟨c, x⟩ := q
    rw [hr] at h1
    obtain ⟨hc, hΦ⟩ := condK_split h1
    refine ⟨x, .none, lent S' ρ' H', ρ', hΦ, trivial, ⟨by simp [entL], by simp [entL], fun k hk => ⟨?_, hno ρ' k⟩⟩, rslvR_rd h2 h3 hr hc 0, ?_⟩
    · rcases hk with hk | hk
      · exact (h2.stab k hk).1
      · exact h2.own_lt hk
    · refine ⟨h4.os, h4.tape, h4.output, h4.size, fun k hk _ => h4.keep k hk (hno ρ k), fun k hk => absurd hk (hno ρ' k), fun k hk => .inl (h4.up k hk), ?_, Nat.zero_le _, fun p hp => absurd hp (by omega)⟩
      rintro k (hk | hk)
      · rcases h4.down k hk with h | h | h
        · exact .inl h
        · exact absurd h (hno ρ k)
        · exact .inr (.inr h)
      · rcases h4.own k hk with h | h
        · exact absurd h (hno ρ k)
        · exact .inr (.inr h)

theorem xDat_sound {te : TE} (hte : TEok P te) {X : XE} (hX : Sound P X.env) (hmix : P.follows .mixedOrders = true) {f : FuncId} {fn : Func} (hf : IsFun P f fn) (hst : codeStat (fn.body.getD .skip) = true) (N : Nat) :
    SpecSound P f (XS.spec (.dat (xDatF te X N fn))) := by
  refine dat_of_gen (xFun_sound hte hX hmix hf hst N) ?_
  rintro xs Φ ⟨x, e, hx, hΦ⟩
  unfold xDatF at hx
  cases hr : xFun te X N fn xs [] with
  | none => rw [hr] at hx; cases hx
  | some q =>
    obtain ⟨r, H'⟩ := q
    rw [hr] at hx
    simp only [xOut] at hx
    refine ⟨r, H', rfl, ?_⟩
    unfold datFin
    cases hq : rslvR H' r with
    | none => rw [hq] at hx; cases hx
    | some p =>
      obtain ⟨c, y⟩ := p
      rw [hq] at hx
      simp only [xRes] at hx
      cases hk : okC c with
      | false => rw [hk] at hx; cases hx
      | true =>
        rw [hk] at hx
        simp only [whenB, noE, Option.some.injEq, Prod.mk.injEq] at hx
        obtain ⟨rfl, rfl⟩ := hx
        exact condK_mk (okC_true hk) hΦ
theorem xGen_sound {te : TE} (hte : TEok P te) {X : XE} (hX : Sound P X.env) (hmix : P.follows .mixedOrders = true) {f : FuncId} {fn : Func} (hf : IsFun P f fn) (hst : codeStat (fn.body.getD .skip) = true) (N : Nat) :
    SpecSound P f (XS.spec (.gen (xFun te X N fn))) := xFun_sound hte hX hmix hf hst N

end
end Go.Rf
end
/-
  LIBRARY FUNCTIONS, part 1: slices.Clone: what comes back is an array of the call's own.
-/
section
set_option linter.unusedVariables false
set_option linter.unusedSimpArgs false
namespace Go.Rf

def roomB (n bytes : Nat) : Bool := decide (n * bytes ≤ 140737488355328)
def xClone (sz bytes : Nat) : List AV → List Ent → Option (AV × List Ent)
  | [.sl z _ es], H => whenB (andB (eqb z sz) (roomB es.length bytes)) (some (.own H.length 1 es.length, setH H H.length (.arr true 1 sz none es)))
  | _, _ => none

section
variable {P : Program} {w : World} {S : Nat → Prop} {ρ : Reg} {H : List Ent}

/-- An empty slice that nobody can append within is an empty array of the call's own. -/
theorem promote (hm : RH w S ρ H) {n sz : Nat} (hsz : 0 < sz) {v : Value} (hv : Rd w S ρ n (.sl sz true []) v) :
    ∃ ρ', RH w S ρ' (setH H H.length (.arr true 1 sz none [])) ∧ Goes w S ρ H w S ρ' (setH H H.length (.arr true 1 sz none [])) H.length ∧ Rd w S ρ' (setH H H.length (.arr true 1 sz none [])).length (.own H.length 1 0) v := by
  have key := hm.fresh (Fresh.end H) w ⟨0, 0, 1, sz⟩ (.arr true 1 sz none []) rfl rfl rfl rfl (Nat.le_refl _) (fun _ _ => rfl) (fun h => by simp [live, upd_same] at h)
    (fun hS hN hl' => EntRd.of_rows (by rw [upd_same]) Nat.one_pos (by rw [upd_same]) hsz (by simp) (by rw [upd_same]; simp [maxLen]) (by simp) (by simp) (by intro h; rw [upd_same] at h; simp at h))
  refine ⟨_, key.1, key.2, ?_⟩
  cases hv with
  | sl _ _ _ _ A len cap cell hl hc hx hfr hsz' hcell hA hr =>
    have h0 : len = 0 := by simpa using hl.symm
    have h1 : cap = len := hfr rfl
    subst h0
    subst h1
    refine .own _ _ _ _ _ _ ?_ ?_ (Nat.le_refl _) (fun h => by simp at h) ?_
    · rw [setH_length H _ _ (Nat.le_refl _)]; omega
    · rw [upd_same]; exact Nat.le_refl _
    · intro _; rw [upd_same]; exact ⟨rfl, fun h => by simp at h⟩

theorem clone_sound {te : TE} (hte : TEok P te) (hmix : P.follows .mixedOrders = true) {f : FuncId} {fn : Func} (hf : IsFun P f fn) {sz bytes : Nat} (hsz : 0 < sz)
    (hv : ∀ (fr : Bool) (es : List (List AV)) (H : List Ent) (Φ : AV → List Ent → Prop), wFun te (fun _ => none) fn [.sl sz fr es] H Φ =
      (∀ b : Bool, (b = true → es = []) → ifB b (Φ (.sl sz true []) H) (((fits sz sz es = true ∧ fits sz sz [] = true) ∧ (([] : List (List AV)) = [] ∨ es ≠ []) ∧ room (0 + es.length) bytes) ∧ Φ (.own H.length 1 (0 + es.length)) (setH H H.length (.arr true 1 sz none ([] ++ es)))))) :
    SpecSound P f (XS.spec (.gen (xClone sz bytes))) := by
  intro w S ρ H xs args Φ hm hargs hw
  obtain ⟨r, H', hx, hΦ⟩ := hw
  unfold xClone at hx
  split at hx
  · rename_i z fr es
    obtain ⟨h1, h2⟩ := whenB_some hx
    obtain ⟨h3, h4⟩ := andB_true h1
    have := eqb_eq h3; subst this
    simp only [Option.some.injEq, Prod.mk.injEq] at h2
    obtain ⟨rfl, rfl⟩ := h2
    have hroom : room es.length bytes := of_decide_eq_true h4
    have hfit : fits z z es = true := by
      cases es
      · rfl
      · have : ∀ n, eqb n n = true := by intro n; induction n with | zero => rfl | succ n ih => exact ih
        exact this z
    have hg := fun_sound hte (Γ := fun _ => none) (by intro f sp h; cases h) hmix hf w S ρ H [.sl z fr es] args
      (fun r H' => (es = [] ∧ r = .sl z true [] ∧ H' = H) ∨ (r = .own H.length 1 es.length ∧ H' = setH H H.length (.arr true 1 z none es))) hm hargs (by
        rw [hv]
        intro b hb
        cases b with
        | true => exact .inl ⟨hb rfl, rfl, rfl⟩
        | false => exact ⟨⟨⟨hfit, rfl⟩, .inl rfl, by rw [Nat.zero_add]; exact hroom⟩, .inr ⟨by rw [Nat.zero_add], rfl⟩⟩)
    refine CallRuns.mono hg ?_
    rintro v w' ⟨r, H', S', ρ', h5, h6, h7, h8⟩
    rcases h5 with ⟨rfl, rfl, rfl⟩ | ⟨rfl, rfl⟩
    · obtain ⟨ρ'', k1, k2, k3⟩ := promote h6 hsz h7
      exact ⟨_, _, S', ρ'', hΦ, k1, k3, h8.trans k2⟩
    · exact ⟨_, _, S', ρ', hΦ, h6, h7, h8⟩
  · cases hx

end
end Go.Rf
end
/-
  LIBRARY FUNCTIONS, part 2: an array of the call's own under another place.
-/
section
set_option linter.unusedVariables false
set_option linter.unusedSimpArgs false
namespace Go.Rf


section
variable {P : Program} {w : World} {S : Nat → Prop} {ρ : Reg} {H : List Ent}

/-- An array moves under a new place. -/
theorem relabel (hm : RH w S ρ H) {q : Nat} {v sz : Nat} {cap : Option Nat} {es : List (List AV)} (hq : H[q]? = some (.arr true v sz cap es)) {x : Value} (hx : Rd w S ρ H.length (.own q v es.length) x) :
    ∃ ρ', RH w S ρ' (setH (setH H q (dead v sz)) H.length (.arr true 1 sz none es)) ∧ Goes w S ρ H w S ρ' (setH (setH H q (dead v sz)) H.length (.arr true 1 sz none es)) H.length ∧
      Rd w S ρ' (setH (setH H q (dead v sz)) H.length (.arr true 1 sz none es)).length (.own H.length 1 es.length) x := by
  have hqlt : q < H.length := (List.getElem?_eq_some_iff.1 hq).1
  have hent := hm.ent q _ hq
  obtain ⟨e1, e2, e3, e4, e5, e6, e7, e8, e9⟩ := id hent
  obtain ⟨g1, g2⟩ := give_up hm hq
  have hl1 : (setH H q (dead v sz)).length = H.length := by rw [setH_length H q _ (Nat.le_of_lt hqlt)]; omega
  have hS : Later S S w w := Later.refl _ _
  -- the new place takes the old one's block
  have hold : live ρ q (.arr true v sz cap es) → ∀ r e, r ≠ q → H[r]? = some e → live ρ r e → (ρ r).blk ≠ (ρ q).blk := fun hl r e hr he hle => hm.apart r q e _ he hq hle hl hr
  have hget := fun r => setH_get (setH H q (dead v sz)) H.length (.arr true 1 sz none es) r (by rw [hl1]; exact Nat.le_refl _)
  have hget1 := fun r => setH_get H q (dead v sz) r (Nat.le_of_lt hqlt)
  have hlen2 : (setH (setH H q (dead v sz)) H.length (.arr true 1 sz none es)).length = H.length + 1 := by rw [setH_length _ _ _ (by rw [hl1]; exact Nat.le_refl _), hl1]; omega
  let ρ' : Reg := upd (upd ρ q ⟨0, 0, v + 1, sz⟩) H.length ⟨(ρ q).blk, (ρ q).cap, 1, sz⟩
  have hρq : ρ' q = ⟨0, 0, v + 1, sz⟩ := by show upd _ _ _ q = _; rw [upd_other _ _ _ _ (by omega), upd_same]
  have hρn : ρ' H.length = ⟨(ρ q).blk, (ρ q).cap, 1, sz⟩ := upd_same _ _ _
  have hρo : ∀ r, r ≠ q → r ≠ H.length → ρ' r = ρ r := fun r h1 h2 => by show upd _ _ _ r = _; rw [upd_other _ _ _ _ h2, upd_other _ _ _ _ h1]
  have hN : Newer ρ ρ' H.length := fun r hr => by
    by_cases h : r = q
    · subst h; right; rw [hρq, e1]; exact Nat.lt_succ_self _
    · left; exact hρo r h (by omega)
  -- what lies where
  have hcase : ∀ r e, (setH (setH H q (dead v sz)) H.length (.arr true 1 sz none es))[r]? = some e → (r = H.length ∧ e = .arr true 1 sz none es) ∨ (r = q ∧ e = dead v sz) ∨ (r ≠ q ∧ r ≠ H.length ∧ H[r]? = some e) := by
    intro r e he
    rw [hget] at he
    by_cases h : r = H.length
    · rw [if_pos h] at he; left; exact ⟨h, by simpa using he.symm⟩
    · rw [if_neg h, hget1] at he
      by_cases h2 : r = q
      · rw [if_pos h2] at he; right; left; exact ⟨h2, by simpa using he.symm⟩
      · rw [if_neg h2] at he; right; right; exact ⟨h2, h, he⟩
  have hown : ∀ k, Own ρ' (setH (setH H q (dead v sz)) H.length (.arr true 1 sz none es)) k → Own ρ H k := by
    rintro k ⟨r, e, he, hl, hk⟩
    rcases hcase r e he with ⟨rfl, rfl⟩ | ⟨rfl, rfl⟩ | ⟨h1, h2, h3⟩
    · refine ⟨q, _, hq, ?_, ?_⟩
      · simp only [live, hρn] at hl; exact hl
      · rw [← hk, hρn]
    · simp [dead, live, hρq] at hl
    · exact ⟨r, e, h3, (live_congr (hρo r h1 h2)).1 hl, by rw [← hk, hρo r h1 h2]⟩
  refine ⟨ρ', ⟨?_, ?_, ?_⟩, ⟨rfl, rfl, rfl, Nat.le_refl _, fun _ _ _ => rfl, fun k hk => .inl (hown k hk), fun _ h => h, fun _ h => .inl h, by rw [hlen2]; omega, hN⟩, ?_⟩
  · intro r e he
    rw [hlen2]
    rcases hcase r e he with ⟨rfl, rfl⟩ | ⟨rfl, rfl⟩ | ⟨h1, h2, h3⟩
    · refine ⟨by rw [hρn], Nat.one_pos, by rw [hρn], e4, by rw [hρn]; exact e5, by rw [hρn]; exact e6, by simp, e8, fun hc => ?_⟩
      rw [hρn] at hc ⊢
      obtain ⟨cs, ty, c1, c2, c3, c4⟩ := e9 hc
      exact ⟨cs, ty, c1, c2, c3, fun i k e a v he ha hv => (c4 i k e a v he ha hv).mono hS (Nat.le_refl _) (fun p hp => absurd hp (by simp))⟩
    · exact EntRd.of_rows (by rw [hρq]) (Nat.succ_pos _) (by rw [hρq]) e4 (by simp) (by rw [hρq]; simp [maxLen]) (by simp) (by simp) (by intro h; rw [hρq] at h; simp at h)
    · exact (hm.ent r e h3).mono (hρo r h1 h2) (fun _ => rfl) hS (by omega) hN
  · intro r t e f hr ht hlr hlt hne
    rcases hcase r e hr with ⟨rfl, rfl⟩ | ⟨rfl, rfl⟩ | ⟨h1, h2, h3⟩
    · rcases hcase t f ht with ⟨rfl, rfl⟩ | ⟨rfl, rfl⟩ | ⟨k1, k2, k3⟩
      · exact absurd rfl hne
      · simp [dead, live, hρq] at hlt
      · rw [hρn, hρo t k1 k2]
        simp only [live, hρn] at hlr
        exact (hold hlr t f k1 k3 ((live_congr (hρo t k1 k2)).1 hlt)).symm
    · simp [dead, live, hρq] at hlr
    · rcases hcase t f ht with ⟨rfl, rfl⟩ | ⟨rfl, rfl⟩ | ⟨k1, k2, k3⟩
      · rw [hρn, hρo r h1 h2]
        simp only [live, hρn] at hlt
        exact hold hlt r e h1 h3 ((live_congr (hρo r h1 h2)).1 hlr)
      · simp [dead, live, hρq] at hlt
      · rw [hρo r h1 h2, hρo t k1 k2]
        exact hm.apart r t e f h3 k3 ((live_congr (hρo r h1 h2)).1 hlr) ((live_congr (hρo t k1 k2)).1 hlt) hne
  · intro k hk
    exact ⟨(hm.stab k hk).1, fun ho => (hm.stab k hk).2 (hown k ho)⟩
  · cases hx with
    | own _ _ _ _ A cap0 hp hver hcp hA hr =>
      obtain ⟨k1, k2⟩ := hr e1.symm
      refine .own _ _ _ _ _ _ (by rw [hlen2]; omega) (by rw [hρn]; exact Nat.le_refl _) hcp hA ?_
      intro _
      rw [hρn]
      exact ⟨k1, k2⟩

end
end Go.Rf
end
/-
  LIBRARY FUNCTIONS, part 3: one array of the call's own is lent to a function, one comes back.
-/
section
set_option linter.unusedVariables false
set_option linter.unusedSimpArgs false
namespace Go.Rf

section
variable {P : Program} {w : World} {S : Nat → Prop} {ρ : Reg} {H : List Ent}

/-- What a function that was lent the array at place q leaves behind. -/
theorem after_lend (hm : RH w S ρ H) {q : Nat} {v sz : Nat} {cap : Option Nat} {es : List (List AV)} (hq : H[q]? = some (.arr true v sz cap es))
    {w' : World} {S' : Nat → Prop} {ρ' : Reg} {H' : List Ent} (hm' : RH w' S' ρ' H') (hg : Goes w S (fun _ => ρ q) [.arr true v sz cap es] w' S' ρ' H' 1) {p ver n : Nat} {cap' : Option Nat} {es' es'' : List (List AV)}
    (hp : H'[p]? = some (.arr true ver sz cap' es'')) {k0 : Nat} (hes : es' = es''.take k0) {x : Value} (hx : Rd w' S' ρ' H'.length (.own p ver n) x ∨ Rd w' S' ρ' H'.length (.osub p ver 0 n) x) :
    ∃ ρ'', RH w' S' ρ'' (setH (setH H q (dead v sz)) H.length (.arr true 1 sz none es')) ∧ Goes w S ρ H w' S' ρ'' (setH (setH H q (dead v sz)) H.length (.arr true 1 sz none es')) H.length ∧
      Rd w' S' ρ'' (setH (setH H q (dead v sz)) H.length (.arr true 1 sz none es')).length (.own H.length 1 n) x := by
  have hqlt : q < H.length := (List.getElem?_eq_some_iff.1 hq).1
  have hent := hm.ent q _ hq
  have e1 := hent.1
  have e4 := hent.2.2.2.1
  have hl1 : (setH H q (dead v sz)).length = H.length := by rw [setH_length H q _ (Nat.le_of_lt hqlt)]; omega
  have hget := fun r => setH_get (setH H q (dead v sz)) H.length (.arr true 1 sz none es') r (by rw [hl1]; exact Nat.le_refl _)
  have hget1 := fun r => setH_get H q (dead v sz) r (Nat.le_of_lt hqlt)
  have hlen2 : (setH (setH H q (dead v sz)) H.length (.arr true 1 sz none es')).length = H.length + 1 := by rw [setH_length _ _ _ (by rw [hl1]; exact Nat.le_refl _), hl1]; omega
  let ρ2 : Reg := upd (upd ρ q ⟨0, 0, v + 1, sz⟩) H.length ⟨(ρ' p).blk, (ρ' p).cap, 1, sz⟩
  have hρq : ρ2 q = ⟨0, 0, v + 1, sz⟩ := by show upd _ _ _ q = _; rw [upd_other _ _ _ _ (by omega), upd_same]
  have hρn : ρ2 H.length = ⟨(ρ' p).blk, (ρ' p).cap, 1, sz⟩ := upd_same _ _ _
  have hρo : ∀ r, r ≠ q → r ≠ H.length → ρ2 r = ρ r := fun r h1 h2 => by show upd _ _ _ r = _; rw [upd_other _ _ _ _ h2, upd_other _ _ _ _ h1]
  have hN : Newer ρ ρ2 H.length := fun r hr => by
    by_cases h : r = q
    · subst h; right; rw [hρq, e1]; exact Nat.lt_succ_self _
    · left; exact hρo r h (by omega)
  have hcase : ∀ r e, (setH (setH H q (dead v sz)) H.length (.arr true 1 sz none es'))[r]? = some e → (r = H.length ∧ e = .arr true 1 sz none es') ∨ (r = q ∧ e = dead v sz) ∨ (r ≠ q ∧ r ≠ H.length ∧ H[r]? = some e) := by
    intro r e he
    rw [hget] at he
    by_cases h : r = H.length
    · rw [if_pos h] at he; left; exact ⟨h, by simpa using he.symm⟩
    · rw [if_neg h, hget1] at he
      by_cases h2 : r = q
      · rw [if_pos h2] at he; right; left; exact ⟨h2, by simpa using he.symm⟩
      · rw [if_neg h2] at he; right; right; exact ⟨h2, h, he⟩
  have hlent : ∀ k, Own (fun _ => ρ q) [Ent.arr true v sz cap es] k → live ρ q (.arr true v sz cap es) ∧ (ρ q).blk = k := by
    rintro k ⟨r, e, he, hl, hk⟩
    cases r with
    | zero => simp at he; subst he; exact ⟨hl, hk⟩
    | succ r => simp at he
  have hlent' : ∀ k, Own (fun _ => ρ q) [Ent.arr true v sz cap es] k → Own ρ H k := fun k hk => ⟨q, _, hq, (hlent k hk).1, (hlent k hk).2⟩
  have hkeep : ∀ k, k < w.heap.size → (live ρ q (.arr true v sz cap es) → k ≠ (ρ q).blk) → w'.heap[k]? = w.heap[k]? := fun k hk hne => hg.keep k hk (fun ho => hne (hlent k ho).1 (hlent k ho).2.symm)
  have hother : ∀ r e, r ≠ q → H[r]? = some e → live ρ r e → (ρ r).blk < w.heap.size ∧ (live ρ q (.arr true v sz cap es) → (ρ r).blk ≠ (ρ q).blk) := fun r e hr he hl => ⟨(hm.ent r e he).live_lt hl, fun hlq => hm.apart r q e _ he hq hl hlq hr⟩
  have hnewblk : live ρ' p (.arr true ver sz cap' es'') → (live ρ q (.arr true v sz cap es) ∧ (ρ' p).blk = (ρ q).blk) ∨ w.heap.size ≤ (ρ' p).blk := fun hl => by
    rcases hg.own (ρ' p).blk ⟨p, _, hp, hl, rfl⟩ with h | h
    · exact .inl ⟨(hlent _ h).1, (hlent _ h).2.symm⟩
    · exact .inr h
  have hlive : live ρ2 H.length (.arr true 1 sz none es') → live ρ' p (.arr true ver sz cap' es'') := fun hl => by simpa only [live, hρn] using hl
  have hS : Later S S' w w' := fun k hk => ⟨hg.up k hk, hkeep k (hm.stab k hk).1 (fun hl heq => (hm.stab k hk).2 ⟨q, _, hq, hl, heq.symm⟩)⟩
  have hown : ∀ k, Own ρ2 (setH (setH H q (dead v sz)) H.length (.arr true 1 sz none es')) k → Own ρ H k ∨ w.heap.size ≤ k := by
    rintro k ⟨r, e, he, hl, hk⟩
    rcases hcase r e he with ⟨rfl, rfl⟩ | ⟨rfl, rfl⟩ | ⟨h1, h2, h3⟩
    · rw [hρn] at hk
      simp only at hk
      rcases hnewblk (hlive hl) with ⟨k1, k2⟩ | k1
      · left; exact ⟨q, _, hq, k1, by rw [← k2]; exact hk⟩
      · right; rw [← hk]; exact k1
    · simp [dead, live, hρq] at hl
    · left; exact ⟨r, e, h3, (live_congr (hρo r h1 h2)).1 hl, by rw [← hk, hρo r h1 h2]⟩
  have hentp := hm'.ent p _ hp
  obtain ⟨f1, f2, f3, f4, f5, f6, f7, f8, f9⟩ := id hentp
  refine ⟨ρ2, ⟨?_, ?_, ?_⟩, ⟨hg.os, hg.tape, hg.output, hg.size, fun k hk hno => hkeep k hk (fun hl heq => hno ⟨q, _, hq, hl, heq.symm⟩), hown, hg.up, fun k hk => (hg.down k hk).elim .inl (fun h => h.elim (fun h => .inr (.inl (hlent' k h))) (fun h => .inr (.inr h))), by rw [hlen2]; omega, hN⟩, ?_⟩
  · intro r e he
    rw [hlen2]
    rcases hcase r e he with ⟨rfl, rfl⟩ | ⟨rfl, rfl⟩ | ⟨h1, h2, h3⟩
    · refine ⟨by rw [hρn], Nat.one_pos, by rw [hρn], e4, by rw [hρn]; exact Nat.le_trans (by rw [hes]; simp [Nat.min_le_right]) f5, by rw [hρn]; exact f6, by simp, fun e he => f8 e (by rw [hes] at he; exact List.mem_of_mem_take he), fun hc => ?_⟩
      rw [hρn] at hc ⊢
      obtain ⟨cs, ty, c1, c2, c3, c4⟩ := f9 hc
      exact ⟨cs, ty, c1, c2, c3, fun i k e a v he ha hv => (c4 i k e a v (by rw [hes, List.getElem?_take] at he; split at he; exact he; cases he) ha hv).mono (Later.refl _ _) (Nat.le_refl _) (fun p hp => absurd hp (by simp))⟩
    · exact EntRd.of_rows (by rw [hρq]) (Nat.succ_pos _) (by rw [hρq]) e4 (by simp) (by rw [hρq]; simp [maxLen]) (by simp) (by simp) (by intro h; rw [hρq] at h; simp at h)
    · exact (hm.ent r e h3).mono (hρo r h1 h2) (fun hl => hkeep _ (hother r e h1 h3 hl).1 (hother r e h1 h3 hl).2) hS (by omega) hN
  · have hfar : ∀ r e, r ≠ q → H[r]? = some e → live ρ r e → live ρ2 H.length (.arr true 1 sz none es') → (ρ r).blk ≠ (ρ' p).blk := by
      intro r e hr he hl hln
      rcases hnewblk (hlive hln) with ⟨k1, k2⟩ | k1
      · rw [k2]; exact (hother r e hr he hl).2 k1
      · have := (hother r e hr he hl).1; omega
    intro r t e f hr ht hlr hlt hne
    rcases hcase r e hr with ⟨rfl, rfl⟩ | ⟨rfl, rfl⟩ | ⟨h1, h2, h3⟩
    · rcases hcase t f ht with ⟨rfl, rfl⟩ | ⟨rfl, rfl⟩ | ⟨k1, k2, k3⟩
      · exact absurd rfl hne
      · simp [dead, live, hρq] at hlt
      · rw [hρn, hρo t k1 k2]
        exact (hfar t f k1 k3 ((live_congr (hρo t k1 k2)).1 hlt) hlr).symm
    · simp [dead, live, hρq] at hlr
    · rcases hcase t f ht with ⟨rfl, rfl⟩ | ⟨rfl, rfl⟩ | ⟨k1, k2, k3⟩
      · rw [hρn, hρo r h1 h2]
        exact hfar r e h1 h3 ((live_congr (hρo r h1 h2)).1 hlr) hlt
      · simp [dead, live, hρq] at hlt
      · rw [hρo r h1 h2, hρo t k1 k2]
        exact hm.apart r t e f h3 k3 ((live_congr (hρo r h1 h2)).1 hlr) ((live_congr (hρo t k1 k2)).1 hlt) hne
  · intro k hk
    refine ⟨(hm'.stab k hk).1, ?_⟩
    rintro ⟨r, e, he, hl, hke⟩
    rcases hcase r e he with ⟨rfl, rfl⟩ | ⟨rfl, rfl⟩ | ⟨h1, h2, h3⟩
    · rw [hρn] at hke
      exact (hm'.stab k hk).2 ⟨p, _, hp, hlive hl, hke⟩
    · simp [dead, live, hρq] at hl
    · have hl' := (live_congr (hρo r h1 h2)).1 hl
      rw [hρo r h1 h2] at hke
      have ho := hother r e h1 h3 hl'
      rcases hg.down k hk with h | h | h
      · exact (hm.stab k h).2 ⟨r, e, h3, hl', hke⟩
      · have hq' := hlent k h
        exact ho.2 hq'.1 (by rw [hke, hq'.2])
      · rw [hke] at ho; omega
  · rcases hx with hx | hx
    · cases hx with
      | own _ _ _ _ A cap0 hp' hver hcp hA hr =>
        obtain ⟨k1, k2⟩ := hr f1.symm
        refine .own _ _ _ _ _ _ (by rw [hlen2]; omega) (by rw [hρn]; exact Nat.le_refl _) hcp hA ?_
        intro _
        rw [hρn]
        exact ⟨k1, k2⟩
    · cases hx with
      | osub _ _ _ _ _ A cap0 hp' hver hcp hA hr =>
        obtain ⟨k1, k2⟩ := hr f1.symm
        refine .own _ _ _ _ _ _ (by rw [hlen2]; omega) (by rw [hρn]; exact Nat.le_refl _) hcp hA ?_
        intro _
        rw [hρn]
        exact ⟨by simpa using k1, fun h => by simpa using k2 h⟩

/-- The array alone, as the function that it is lent to sees it. -/
theorem lend_rh (hm : RH w S ρ H) {q : Nat} {v sz : Nat} {cap : Option Nat} {es : List (List AV)} (hq : H[q]? = some (.arr true v sz cap es)) : RH w S (fun _ => ρ q) [.arr true v sz cap es] := by
  refine ⟨?_, ?_, ?_⟩
  · intro r e he
    cases r with
    | zero =>
      simp at he
      subst he
      obtain ⟨h1, h2, h3, h4, h5, h6, h7, h8, h9⟩ := hm.ent q _ hq
      refine ⟨h1, h2, h3, h4, h5, h6, h7, h8, fun hc => ?_⟩
      obtain ⟨cs, ty, k1, k2, k3, k4⟩ := h9 hc
      exact ⟨cs, ty, k1, k2, k3, fun i k e a v he ha hv => (k4 i k e a v he ha hv).mono (Later.refl _ _) (Nat.le_refl _) (fun p hp => absurd hp (by simp))⟩
    | succ r => simp at he
  · intro r t e f hr ht _ _ hne
    cases r with
    | zero => cases t with
      | zero => exact absurd rfl hne
      | succ t => simp at ht
    | succ r => simp at hr
  · intro k hk
    refine ⟨(hm.stab k hk).1, ?_⟩
    rintro ⟨r, e, he, hl, hke⟩
    cases r with
    | zero => simp at he; subst he; exact (hm.stab k hk).2 ⟨q, _, hq, hl, hke⟩
    | succ r => simp at he

end
end Go.Rf
end
/-
  RUNNING, part 1: a result as data, also where arrays lie within arrays; a function that runs on data where it can, and else on the caller's memory.
-/
section
set_option linter.unusedVariables false
set_option linter.unusedSimpArgs false
namespace Go.Rf

def mapC (f : AV → Option AV) : List AV → Option (List AV)
  | [] => some []
  | v :: vs => consO (f v) (mapC f vs)
def consRow : Option (List AV) → Option (List (List AV)) → Option (List (List AV))
  | some e, some es => some (e :: es)
  | _, _ => none
def mapRows (f : AV → Option AV) : List (List AV) → Option (List (List AV))
  | [] => some []
  | e :: es => consRow (mapC f e) (mapRows f es)
def rowsO (f : AV → Option AV) : Bool → List (List AV) → Option (List (List AV))
  | true, es => some es
  | false, es => mapRows f es
def slO (sz : Nat) : Option (List (List AV)) → Option AV
  | some es => some (.sl sz false es)
  | none => none
def deepArr (f : AV → Option AV) (ver len : Nat) : Ent → Option AV
  | .arr cl v sz _ es => whenB (andB (Nat.beq v ver) (Nat.beq len es.length)) (slO sz (rowsO f cl es))
  | _ => none
def deepSub (f : AV → Option AV) (ver off len : Nat) : Ent → Option AV
  | .arr cl v sz _ es => whenB (andB (Nat.beq v ver) (Nat.ble (off + len) es.length)) (slO sz (rowsO f cl ((es.drop off).take len)))
  | _ => none
def notAv : Option Nat → Nat → Bool
  | none, _ => true
  | some a, q => !(Nat.beq a q)
def deep1 (f : AV → Option AV) (av : Option Nat) (H : List Ent) : AV → Option AV
  | .int k n => some (.int k n)
  | .bool b => some (.bool b)
  | .str s => some (.str s)
  | .fn g => some (.fn g)
  | .sl sz _ es => some (.sl sz false es)
  | .own q ver len => whenB (notAv av q) (deepArr f ver len (H.getD q .none))
  | .osub q ver off len => whenB (notAv av q) (deepSub f ver off len (H.getD q .none))
  | _ => none
def deepC (av : Option Nat) : Nat → List Ent → AV → Option AV
  | 0, _ => fun _ => none
  | n + 1, H => deep1 (deepC av n H) av H
def aggO : Option (List AV) → Option AV
  | some cs => some (.agg cs)
  | none => none
def tupO : Option (List AV) → Option AV
  | some cs => some (.tup cs)
  | none => none
def deepV (N : Nat) (H : List Ent) : AV → Option AV
  | .agg cs => aggO (mapC (deepC none N H) cs)
  | v => deepC none N H v
def deepR (N : Nat) (H : List Ent) : AV → Option AV
  | .tup vs => tupO (mapC (deepV N H) vs)
  | v => deepV N H v

section
variable {P : Program} {w : World} {S : Nat → Prop} {ρ : Reg} {H : List Ent}

/-- The blocks of the call's own but for one place's, lent. -/
def lentX (S : Nat → Prop) (ρ : Reg) (H : List Ent) (av : Option Nat) : Nat → Prop := fun k => S k ∨ ∃ p e, H[p]? = some e ∧ notAv av p = true ∧ live ρ p e ∧ (ρ p).blk = k

theorem consO_split {x : Option AV} {xs : Option (List AV)} {ys : List AV} (h : consO x xs = some ys) : ∃ y zs, x = some y ∧ xs = some zs ∧ ys = y :: zs := by
  unfold consO at h
  split at h
  · cases h; exact ⟨_, _, rfl, rfl, rfl⟩
  · cases h
theorem mapC_get {f : AV → Option AV} : ∀ {cs ys : List AV}, mapC f cs = some ys → ys.length = cs.length ∧ ∀ (i : Nat) (y : AV), ys[i]? = some y → ∃ a, cs[i]? = some a ∧ f a = some y
  | [], ys, h => by simp only [mapC, Option.some.injEq] at h; subst h; exact ⟨rfl, by simp⟩
  | c :: cs, ys, h => by
    simp only [mapC] at h
    obtain ⟨y, zs, h1, h2, rfl⟩ := consO_split h
    obtain ⟨k1, k2⟩ := mapC_get h2
    refine ⟨by simp [k1], fun i z hz => ?_⟩
    cases i with
    | zero => simp at hz; subst hz; exact ⟨c, rfl, h1⟩
    | succ i => exact k2 i z (by simpa using hz)
theorem mapRows_get {f : AV → Option AV} : ∀ {es ys : List (List AV)}, mapRows f es = some ys → ys.length = es.length ∧ ∀ (i : Nat) (y : List AV), ys[i]? = some y → ∃ e, es[i]? = some e ∧ mapC f e = some y
  | [], ys, h => by simp only [mapRows, Option.some.injEq] at h; subst h; exact ⟨rfl, by simp⟩
  | e :: es, ys, h => by
    simp only [mapRows] at h
    unfold consRow at h
    split at h
    · rename_i y zs h1 h2
      cases h
      obtain ⟨k1, k2⟩ := mapRows_get h2
      refine ⟨by simp [k1], fun i z hz => ?_⟩
      cases i with
      | zero => simp at hz; subst hz; exact ⟨e, rfl, h1⟩
      | succ i => exact k2 i z (by simpa using hz)
    · cases h

/-- The rows, each cell as data. -/
theorem rows_map {av : Option Nat} {f : AV → Option AV} (hf : ∀ a x v, f a = some x → Rd w S ρ H.length a v → ∀ n, Rd w (lentX S ρ H av) ρ n x v) {sz : Nat} {es ys : List (List AV)} {vs : List Value} (h : RowsRd w S ρ H.length sz es vs) (hm : mapRows f es = some ys) : RowsRd w (lentX S ρ H av) ρ 0 sz ys vs := by
  obtain ⟨k1, k2⟩ := mapRows_get hm
  refine ⟨by rw [h.len, k1], h.one, ?_, ?_⟩
  · intro y hy
    obtain ⟨i, hi⟩ := List.getElem?_of_mem hy
    obtain ⟨e, he, hc⟩ := k2 i y hi
    rw [(mapC_get hc).1]
    exact h.row e (List.mem_of_getElem? he)
  · intro i k y a v hy ha hv
    obtain ⟨e, he, hc⟩ := k2 i y hy
    obtain ⟨b, hb, hfb⟩ := (mapC_get hc).2 k a ha
    exact hf b a v hfb (h.rd i k e b v he hb hv) 0
theorem rows_data {av : Option Nat} {f : AV → Option AV} (hf : ∀ a x v, f a = some x → Rd w S ρ H.length a v → ∀ n, Rd w (lentX S ρ H av) ρ n x v) {sz : Nat} {es ys : List (List AV)} {vs : List Value} {cl : Bool} (h : RowsRd w S ρ (if cl then 0 else H.length) sz es vs) (hm : rowsO f cl es = some ys) : ys.length = es.length ∧ RowsRd w (lentX S ρ H av) ρ 0 sz ys vs := by
  cases cl with
  | true => cases hm; exact ⟨rfl, h.mono (fun _ hk => ⟨.inl hk, rfl⟩) (Nat.le_refl _) (Newer.refl _ _)⟩
  | false => exact ⟨(mapRows_get hm).1, rows_map hf h hm⟩

theorem own_deep {av : Option Nat} {f : AV → Option AV} (hf : ∀ a x v, f a = some x → Rd w S ρ H.length a v → ∀ n, Rd w (lentX S ρ H av) ρ n x v) (hm : RH w S ρ H) {q : Nat} (hav : notAv av q = true) {cl : Bool} {v sz : Nat} {cap : Option Nat} {es ys : List (List AV)} (hq : H[q]? = some (.arr cl v sz cap es)) {A : Option Addr} {off len cap0 : Nat} (hle : off + len ≤ es.length) (hys : rowsO f cl ((es.drop off).take len) = some ys)
    (hcap : len ≤ cap0) (hoc : off + cap0 = (ρ q).cap) (hA : 0 < cap0 → A = some ⟨(ρ q).blk, off * sz, none⟩) (n : Nat) :
    Rd w (lentX S ρ H av) ρ n (.sl sz false ys) (.slice A len cap0) := by
  have hent := hm.ent q _ hq
  have hl : ((es.drop off).take len).length = len := by simp; omega
  have e5 := hent.2.2.2.2.1
  have e6 := hent.2.2.2.2.2.1
  rcases Nat.eq_zero_or_pos len with h0 | h0
  · subst h0
    have : ys = [] := by
      cases cl with
      | true => simpa [rowsO] using hys.symm
      | false => simpa [rowsO, mapRows] using hys.symm
    subst this
    exact .sl _ sz false [] A 0 cap0 (fun _ _ => default) rfl (Nat.zero_le _) (by omega) (by simp) (by simp) (by intro i k hi; omega) (by intro h; omega) (by simp)
  · obtain ⟨cs, ty, k1, k2, k3, k4⟩ := hent.rows (by omega)
    have k5 := ((k4.drop off).take len)
    obtain ⟨hyl, k6⟩ := rows_data hf k5 hys
    have := Rd.sl_of_rows (n := n) false k6 A cap0 (by rw [hyl, hl]; exact hcap) (by omega) (by simp) (fun _ => by
      refine ⟨_, hA (by omega), .inr ⟨q, _, hq, hav, by show 0 < (ρ q).cap; omega, rfl⟩, fun j v hv => ?_⟩
      rw [List.getElem?_take] at hv
      split at hv
      · rw [List.getElem?_drop, List.getElem?_take] at hv
        split at hv
        · rw [Addr.add_lit, cell_of_row w _ _ cs ty _ k1]; simpa using hv
        · cases hv
      · cases hv)
    rwa [hyl, hl] at this

theorem slO_some {sz : Nat} {r : Option (List (List AV))} {x : AV} (h : slO sz r = some x) : ∃ ys, r = some ys ∧ x = .sl sz false ys := by
  cases r with
  | none => cases h
  | some ys => cases h; exact ⟨ys, rfl, rfl⟩

theorem deepC_rd (av : Option Nat) (hm : RH w S ρ H) : ∀ (N : Nat) (a x : AV) (v : Value), deepC av N H a = some x → Rd w S ρ H.length a v → ∀ n, Rd w (lentX S ρ H av) ρ n x v
  | 0, a, x, v, h, _ => by cases h
  | N + 1, a, x, v, h, hv => by
    intro n
    have ih := deepC_rd av hm N
    simp only [deepC] at h
    unfold deep1 at h
    split at h
    · cases h; cases hv; exact .int _ _ _
    · cases h; cases hv; exact .bool _ _
    · cases h; cases hv; exact .str _ _
    · cases h; cases hv; exact .fn _ _
    · cases h
      exact (hv.closed1 rfl).nf.mono (fun _ hk => ⟨.inl hk, rfl⟩) (Nat.zero_le _) (Newer.refl _ _)
    · rename_i q ver len
      obtain ⟨hav, h⟩ := whenB_some h
      cases hq : H.getD q .none with
      | none => rw [hq] at h; cases h
      | var => rw [hq] at h; cases h
      | arr cl v sz cap es =>
        rw [hq] at h
        simp only [deepArr] at h
        obtain ⟨h1, h2⟩ := whenB_some h
        obtain ⟨h3, h4⟩ := andB_true h1
        obtain ⟨ys, h5, rfl⟩ := slO_some h2
        have h3 : v = ver := Nat.eq_of_beq_eq_true h3
        have h4 : len = es.length := Nat.eq_of_beq_eq_true h4
        subst h3; subst h4
        have hget := getD_some hq (by simp)
        cases hv with
        | own _ _ _ _ A cap0 hp hver hcp hA hr =>
          obtain ⟨k1, k2⟩ := hr (hm.ent q _ hget).1.symm
          exact own_deep ih hm hav hget (A := A) (off := 0) (len := es.length) (cap0 := cap0) (by omega) (by simpa using h5) hcp (by omega) (fun h => by rw [k2 h]; simp) n
    · rename_i q ver off len
      obtain ⟨hav, h⟩ := whenB_some h
      cases hq : H.getD q .none with
      | none => rw [hq] at h; cases h
      | var => rw [hq] at h; cases h
      | arr cl v sz cap es =>
        rw [hq] at h
        simp only [deepSub] at h
        obtain ⟨h1, h2⟩ := whenB_some h
        obtain ⟨h3, h4⟩ := andB_true h1
        obtain ⟨ys, h5, rfl⟩ := slO_some h2
        have h3 : v = ver := Nat.eq_of_beq_eq_true h3
        subst h3
        have hget := getD_some hq (by simp)
        have hent := hm.ent q _ hget
        cases hv with
        | osub _ _ _ _ _ A cap0 hp hver hcp hA hr =>
          obtain ⟨k1, k2⟩ := hr hent.1.symm
          exact own_deep ih hm hav hget (Nat.le_of_ble_eq_true h4) h5 hcp k1 (fun h => by rw [k2 h, hent.2.2.1]) n
    · cases h

theorem deepV_rd (hm : RH w S ρ H) (N : Nat) (a x : AV) (v : Value) (h : deepV N H a = some x) (hv : Rd w S ρ H.length a v) (n : Nat) : Rd w (lentX S ρ H none) ρ n x v := by
  unfold deepV at h
  split at h
  · rename_i cs
    cases hc : mapC (deepC none N H) cs with
    | none => rw [hc] at h; cases h
    | some ys =>
      rw [hc] at h
      cases h
      obtain ⟨k1, k2⟩ := mapC_get hc
      cases hv with
      | agg _ _ vs hl h1 hr =>
        refine .agg _ ys vs (by omega) h1 fun i y v hy hv => ?_
        obtain ⟨b, hb, hfb⟩ := k2 i y hy
        exact deepC_rd none hm N b y v hfb (hr i b v hb hv) n
  · exact deepC_rd none hm N a x v h hv n
theorem deepR_rd (hm : RH w S ρ H) (N : Nat) (a x : AV) (v : Value) (h : deepR N H a = some x) (hv : Rd w S ρ H.length a v) (n : Nat) : Rd w (lentX S ρ H none) ρ n x v := by
  unfold deepR at h
  split at h
  · rename_i cs
    cases hc : mapC (deepV N H) cs with
    | none => rw [hc] at h; cases h
    | some ys =>
      rw [hc] at h
      cases h
      obtain ⟨k1, k2⟩ := mapC_get hc
      cases hv with
      | tup _ _ vs hl hr =>
        refine .tup _ ys vs (by omega) fun i y v hy hv => ?_
        obtain ⟨b, hb, hfb⟩ := k2 i y hy
        exact deepV_rd hm N b y v hfb (hr i b v hb hv) n
  · exact deepV_rd hm N a x v h hv n

/-- A function's result as data. -/
def outD (N : Nat) : Option (AV × List Ent) → Option AV
  | some (r, H) => deepR N H r
  | none => none
def datOf (N : Nat) (g : List AV → List Ent → Option (AV × List Ent)) (xs : List AV) : Option (AV × Ent) := noE (outD N (g xs []))

theorem datOf_sound {f : FuncId} {g : List AV → List Ent → Option (AV × List Ent)} (hg : SpecSound P f (XS.spec (.gen g))) (N : Nat) : SpecSound P f (XS.spec (.dat (datOf N g))) := by
  rintro w S ρ xs args Φ hS hargs ⟨x, e, hx, hΦ⟩
  have hno : ∀ (ρ : Reg) k, ¬ Own ρ [] k := by rintro ρ k ⟨p, e, he, _⟩; simp at he
  have hm : RH w S ρ [] := ⟨by simp, by simp, fun k hk => ⟨hS k hk, hno ρ k⟩⟩
  unfold datOf at hx
  cases hr : g xs [] with
  | none => rw [hr] at hx; cases hx
  | some p =>
    obtain ⟨r, H'⟩ := p
    rw [hr] at hx
    simp only [outD] at hx
    cases hd : deepR N H' r with
    | none => rw [hd] at hx; cases hx
    | some y =>
    rw [hd] at hx
    simp only [noE, Option.some.injEq, Prod.mk.injEq] at hx
    obtain ⟨rfl, rfl⟩ := hx
    refine CallRuns.mono (hg w S ρ [] xs args (fun r2 H2 => r2 = r ∧ H2 = H') hm hargs ⟨r, H', hr, rfl, rfl⟩) ?_
    rintro v w' ⟨_, _, S', ρ', ⟨rfl, rfl⟩, h2, h3, h4⟩
    refine ⟨_, .none, lentX S' ρ' _ none, ρ', hΦ, trivial, ⟨by simp [entL], by simp [entL], fun k hk => ⟨?_, hno ρ' k⟩⟩, deepR_rd h2 N _ _ v hd h3 0, ?_⟩
    · rcases hk with hk | hk
      · exact (h2.stab k hk).1
      · obtain ⟨p, e, g1, _, g2, g3⟩ := hk
        exact h2.own_lt ⟨p, e, g1, g2, g3⟩
    · refine ⟨h4.os, h4.tape, h4.output, h4.size, fun k hk _ => h4.keep k hk (hno ρ k), fun k hk => absurd hk (hno ρ' k), fun k hk => .inl (h4.up k hk), ?_, Nat.zero_le _, fun p hp => absurd hp (by omega)⟩
      rintro k (hk | hk)
      · rcases h4.down k hk with h | h | h
        · exact .inl h
        · exact absurd h (hno ρ k)
        · exact .inr (.inr h)
      · obtain ⟨p, e, g1, _, g2, g3⟩ := hk
        rcases h4.own k ⟨p, e, g1, g2, g3⟩ with h | h
        · exact absurd h (hno ρ k)
        · exact .inr (.inr h)

/-- On data where no place is named, else on the caller's memory. -/
def pairH (H : List Ent) : Option (AV × Ent) → Option (AV × List Ent)
  | some (x, e) => some (mvR H.length x, putH H (pushE H.length e))
  | none => none
def hybK (d : List AV → Option (AV × Ent)) (g : List AV → List Ent → Option (AV × List Ent)) (args : List AV) (H : List Ent) : Bool → Rs (List AV) → Option (AV × List Ent)
  | false, some (_, xs) => pairH H (d xs)
  | false, none => none
  | true, _ => g args H
def hyb (d : List AV → Option (AV × Ent)) (g : List AV → List Ent → Option (AV × List Ent)) (args : List AV) (H : List Ent) : Option (AV × List Ent) := hybK d g args H (namesA args) (rslvL H args)

theorem hyb_sound {f : FuncId} {d : List AV → Option (AV × Ent)} {g : List AV → List Ent → Option (AV × List Ent)} (hd : SpecSound P f (XS.spec (.dat d))) (hg : SpecSound P f (XS.spec (.gen g))) : SpecSound P f (XS.spec (.gen (hyb d g))) := by
  rintro w S ρ H args0 args Φ hm hargs ⟨r, H', hr, hΦ⟩
  unfold hyb at hr
  cases hn : namesA args0 with
  | true =>
    rw [hn] at hr
    exact hg w S ρ H args0 args Φ hm hargs ⟨r, H', hr, hΦ⟩
  | false =>
    rw [hn] at hr
    cases hq : rslvL H args0 with
    | none => rw [hq] at hr; cases hr
    | some q =>
      obtain ⟨c, xs⟩ := q
      rw [hq] at hr
      simp only [hybK] at hr
      cases hx : d xs with
      | none => rw [hx] at hr; cases hr
      | some x =>
        obtain ⟨x, e0⟩ := x
        rw [hx] at hr
        simp only [pairH, Option.some.injEq, Prod.mk.injEq] at hr
        obtain ⟨rfl, rfl⟩ := hr
        obtain ⟨i1, i2⟩ := rslvL_plain (w := w) (S := S) (ρ := ρ) _ _ _ hn hq
        have hxs : ArgsRd w S ρ 0 xs args := ⟨by rw [hargs.1, i1], fun i x v hx hv => i2 H.length i x v hx (fun b hb => hargs.2 i b v hb hv)⟩
        refine CallRuns.mono (hd w S ρ xs args (fun r e => r = x ∧ e = e0) (fun k hk => (hm.stab k hk).1) hxs ⟨x, e0, hx, rfl, rfl⟩) ?_
        rintro v w' ⟨r, en, S', ρ', ⟨rfl, rfl⟩, h2, h3, h4, h5⟩
        obtain ⟨ρ'', g1, g2, g3⟩ := after_call hm h2 h3 h4 h5 (Fresh.end H)
        exact ⟨_, _, S', ρ'', hΦ, g1, g3, g2⟩

end
end Go.Rf
end
/-
  RUNNING, part 2: a function that is lent one array of the call's own, and gives one back.
-/
section
set_option linter.unusedVariables false
set_option linter.unusedSimpArgs false
namespace Go.Rf

/-- What comes back: an array of the call's own, or the front part of one. -/
def LendR (sz : Nat) (es' : List (List AV)) (r : AV) (H' : List Ent) : Prop :=
  ∃ p ver n cap' es'', H'[p]? = some (.arr true ver sz cap' es'') ∧ es''.take n = es' ∧ n = es'.length ∧ (r = .own p ver n ∨ r = .osub p ver 0 n)

def lendOut (H : List Ent) (q v sz : Nat) : Option (List (List AV)) → Option (AV × List Ent)
  | some es' => some (.own H.length 1 es'.length, setH (setH H q (dead v sz)) H.length (.arr true 1 sz none es'))
  | none => none
def lendE (F : List (List AV) → List AV → Option (List (List AV))) (sz q ver len : Nat) (rest : List AV) (H : List Ent) : Ent → Option (AV × List Ent)
  | .arr true v s none es => whenB (andB (Nat.beq v ver) (andB (Nat.beq len es.length) (Nat.beq s sz))) (lendOut H q v sz (F es rest))
  | _ => none
def lendN (F : List (List AV) → List AV → Option (List (List AV))) (sz q ver len : Nat) (rest : List AV) (H : List Ent) : Bool → Option (AV × List Ent)
  | false => lendE F sz q ver len rest H (H.getD q .none)
  | true => none
def xLend (F : List (List AV) → List AV → Option (List (List AV))) (sz : Nat) : List AV → List Ent → Option (AV × List Ent)
  | .own q ver len :: rest, H => lendN F sz q ver len rest H (namesA rest)
  | _, _ => none

section
variable {P : Program} {w : World} {S : Nat → Prop} {ρ : Reg} {H : List Ent}

theorem namesA_rd : ∀ {cs : List AV}, namesA cs = false → ∀ (n i : Nat) (a : AV) (v : Value), cs[i]? = some a → Rd w S ρ n a v → ∀ m (ρ' : Reg), Rd w S ρ' m a v
  | [], _, n, i, a, v, h, _ => by simp at h
  | c :: cs, hb, n, i, a, v, h, hr => by
    obtain ⟨h1, h2⟩ := orB_false hb
    cases i with
    | zero =>
      simp at h
      subst h
      intro m ρ'
      have h0 : Rd w S ρ 0 c v := by
        cases c with
        | agg cs =>
          cases hr with
          | agg _ _ vs hl h1' hr' => exact .agg _ _ vs hl h1' fun i a v ha hv => namesL_rd h1 n 0 i a v ha (hr' i a v ha hv)
        | int => exact hr.names1 rfl
        | bool => exact hr.names1 rfl
        | str => exact hr.names1 rfl
        | fn => exact hr.names1 rfl
        | sl => exact hr.names1 rfl
        | _ => simp [names] at h1
      exact h0.mono (Later.refl _ _) (Nat.zero_le _) (fun p hp => absurd hp (by omega))
    | succ i => exact namesA_rd h2 n i a v (by simpa using h) hr

theorem lend_sound {f : FuncId} {G : GSpec} (hG : GSound P f G) {F : List (List AV) → List AV → Option (List (List AV))} {sz : Nat}
    (hv : ∀ (v : Nat) (es es' : List (List AV)) (rest : List AV), F es rest = some es' → G (.own 0 v es.length :: rest) [.arr true v sz none es] (LendR sz es')) :
    SpecSound P f (XS.spec (.gen (xLend F sz))) := by
  rintro w S ρ H xs args Φ hm hargs ⟨r, H', hr, hΦ⟩
  unfold xLend at hr
  split at hr
  · rename_i q ver len rest
    cases hn : namesA rest with
    | true => rw [hn] at hr; cases hr
    | false =>
      rw [hn] at hr
      simp only [lendN] at hr
      cases hq : H.getD q .none with
      | none => rw [hq] at hr; cases hr
      | var => rw [hq] at hr; cases hr
      | arr cl v s c es =>
        rw [hq] at hr
        cases cl with
        | false => cases hr
        | true =>
          cases c with
          | some c => cases hr
          | none =>
          simp only [lendE] at hr
          obtain ⟨h1, h2⟩ := whenB_some hr
          obtain ⟨h3, h4⟩ := andB_true h1
          obtain ⟨h5, h6⟩ := andB_true h4
          have e1 : v = ver := Nat.eq_of_beq_eq_true h3
          have e2 : len = es.length := Nat.eq_of_beq_eq_true h5
          have e3 : s = sz := Nat.eq_of_beq_eq_true h6
          subst e1; subst e2; subst e3
          cases hF : F es rest with
          | none => rw [hF] at h2; cases h2
          | some es' =>
            rw [hF] at h2
            simp only [lendOut, Option.some.injEq, Prod.mk.injEq] at h2
            obtain ⟨rfl, rfl⟩ := h2
            have hget := getD_some hq (by simp)
            have hm1 := lend_rh hm hget
            have ha1 : ArgsRd w S (fun _ => ρ q) 1 (.own 0 v es.length :: rest) args := by
              refine ⟨by rw [hargs.1]; rfl, fun i x u hx hu => ?_⟩
              cases i with
              | zero =>
                simp at hx
                subst hx
                have := hargs.2 0 _ u rfl hu
                cases this with
                | own _ _ _ _ A cap0 hp hver hcp hA hr => exact .own _ _ _ _ _ _ Nat.one_pos hver hcp hA hr
              | succ i =>
                have hx' : rest[i]? = some x := by simpa using hx
                exact namesA_rd hn H.length i x u hx' (hargs.2 (i + 1) x u (by simpa using hx) hu) 1 _
            refine CallRuns.mono (hG w S (fun _ => ρ q) _ _ args _ hm1 ha1 (hv v es es' rest hF)) ?_
            rintro u w' ⟨r, H', S', ρ', ⟨p, ver', n, cap', es'', hp, hes, hn', hr'⟩, h6, h7, h8⟩
            have hx : Rd w' S' ρ' H'.length (.own p ver' n) u ∨ Rd w' S' ρ' H'.length (.osub p ver' 0 n) u := by
              rcases hr' with rfl | rfl
              · exact .inl h7
              · exact .inr h7
            obtain ⟨ρ'', g1, g2, g3⟩ := after_lend hm hget h6 h8 hp hes.symm hx
            exact ⟨_, _, S', ρ'', hΦ, g1, by rw [← hn']; exact g3, g2⟩
  · cases hr

end
end Go.Rf
end
/-
  RUNNING, part 3: the temporaries as a tree, so that the kernel reads and writes them fast: definitions.
-/
section
set_option linter.unusedVariables false
set_option linter.unusedSimpArgs false
namespace Go.Rf

inductive TT where
  | leaf
  | node (v : AV) (l r : TT)

noncomputable def sel {α : Type} (i : Nat) (a b c : α) : α :=
  Bool.rec (motive := fun _ => α) (Bool.rec (motive := fun _ => α) c b (Nat.beq (Nat.mod i 2) 1)) a (Nat.beq i 0)
noncomputable def fget (t : TT) : Nat → AV :=
  TT.rec (motive := fun _ => Nat → AV) (fun _ => AV.junk) (fun v _ _ il ir i => sel i v (il (Nat.div i 2)) (ir (Nat.pred (Nat.div i 2)))) t
noncomputable def fset (f : Nat) : Nat → AV → TT → TT :=
  Nat.rec (motive := fun _ => Nat → AV → TT → TT) (fun _ _ t => t)
    (fun _ ih i v t => TT.rec (motive := fun _ => TT)
      (sel i (.node v .leaf .leaf) (.node .junk (ih (Nat.div i 2) v .leaf) .leaf) (.node .junk .leaf (ih (Nat.pred (Nat.div i 2)) v .leaf)))
      (fun u l r _ _ => sel i (.node v l r) (.node u (ih (Nat.div i 2) v l) r) (.node u l (ih (Nat.pred (Nat.div i 2)) v r))) t) f
noncomputable def fput (n : Nat) (t : TT) (v : AV) : Option Nat → TT
  | some d => Bool.rec (motive := fun _ => TT) t (fset 12 d v t) (Nat.blt d n)
  | none => t
noncomputable def treeOf : List AV → Nat → TT → TT
  | [], _, t => t
  | v :: vs, i, t => treeOf vs (i + 1) (fset 12 i v t)

structure FS where
  n : Nat
  T : TT
  H : List Ent
noncomputable def FS.put (s : FS) (v : AV) (dst : Option Nat) (H : List Ent) : FS := ⟨s.n, fput s.n s.T v dst, H⟩

noncomputable def evT (t : TT) : Operand → AV
  | .tmp i => fget t i
  | .const v => avOf v
  | .func f => .fn f
  | .global _ => .junk
def evsE (te : TE) (E : Operand → AV) : List Operand → List TypeId → List AV
  | [], _ => []
  | x :: xs, [] => E x :: evsE te E xs []
  | x :: xs, t :: ts => rty te t (E x) :: evsE te E xs ts

noncomputable def fPutX (s : FS) (dst : Option Nat) : Option (AV × Ent) → Option FS
  | some (x, e) => some (s.put (mvR s.H.length x) dst (putH s.H (pushE s.H.length e)))
  | none => none
noncomputable def fPutXs (s : FS) (dst : Option Nat) : Option (AV × Ent) → Option FS
  | some (x, .none) => whenB (scalarB x) (some (s.put x dst s.H))
  | _ => none
noncomputable def fPutXg (s : FS) (dst : Option Nat) : Option (AV × List Ent) → Option FS
  | some (r, H') => some (s.put r dst H')
  | none => none
noncomputable def fDatCall (g : List AV → Option (AV × Ent)) (s : FS) (dst : Option Nat) : Bool → Rs (List AV) → Option FS
  | false, some (_, xs) => fPutX s dst (g xs)
  | true, some (c, xs) => whenB (okC c) (fPutXs s dst (g xs))
  | _, none => none
noncomputable def fCall (s : FS) (dst : Option Nat) (args : List AV) : Option XS → Option FS
  | some (.dat g) => fDatCall g s dst (namesA args) (rslvL s.H args)
  | some (.gen g) => fPutXg s dst (g args s.H)
  | none => none
noncomputable def fPutO (s : FS) (dst : Option Nat) : Option Out → Option FS
  | some ⟨c, v, w, _, _, _⟩ => whenB (okC c) (some (s.put v dst (putH s.H w)))
  | none => none
noncomputable def fApp2 (s : FS) (dst : Option Nat) (x : AV) (k : Option Cont) (i : TI) : Option FS := orO (fPutO s dst (evAppendIn s.H i.size x k)) (fPutO s dst (evAppendOut s.H.length s.H i.size i.bytes x k))
noncomputable def fApp (s : FS) (dst : Option Nat) (x y : AV) (t2 : Option TI) : Option TI → Option FS
  | some i => fApp2 s dst x (appArg s.H i t2 y) i
  | none => none
noncomputable def fBuiltin (te : TE) (s : FS) (dst : Option Nat) : Builtin → List Operand → List TypeId → Option FS
  | .append, [x, y], [t, u] => fApp s dst (evT s.T x) (evT s.T y) (te u) (elemI te (te t))
  | _, _, _ => none
noncomputable def fNil (s : FS) (dst : Option Nat) (neq : Bool) : AV → Option FS
  | .sl _ _ (_ :: _) => some (s.put (.bool (notIf neq false)) dst s.H)
  | .own _ _ (_ + 1) => some (s.put (.bool (notIf neq false)) dst s.H)
  | _ => none
noncomputable def fBin (s : FS) (dst : Option Nat) (x : AV) (nil : Bool) : BinOp → Option FS
  | .eql => whenB nil (fNil s dst false x)
  | .neq => whenB nil (fNil s dst true x)
  | _ => none
noncomputable def fSpecial (te : TE) (X : XE) (s : FS) (dst : Option Nat) : Op → Option FS
  | .call ⟨.value f, args, tys⟩ => fCall s dst (evsE te (evT s.T) args.toList tys.toList) (xCallee X (evT s.T f))
  | .call ⟨.builtin b, args, tys⟩ => fBuiltin te s dst b args.toList tys.toList
  | .binOp op t x y _ => fBin s dst (evT s.T x) (andB (isSlice (te t)) (isNilConst y)) op
  | _ => none
noncomputable def fPutR (te : TE) (o : Oper) (s : FS) : Out → Option FS
  | ⟨c, v, w, _, _, raw⟩ => whenB (andB (okC c) (rawB te o.op v raw)) (some (s.put v o.dst (putH s.H w)))
noncomputable def fOpK (te : TE) (X : XE) (o : Oper) (s : FS) : Option Out → Option FS
  | some out => fPutR te o s out
  | none => fSpecial te X s o.dst o.op
noncomputable def fOp (te : TE) (X : XE) (o : Oper) (s : FS) : Option FS := fOpK te X o s (evOpE te s.H.length (evT s.T) s.H o.op)

noncomputable def fGuardV (te : TE) (X : XE) (o : Oper) (want : Bool) (s : FS) : AV → Option FS
  | .bool b => xIf (sameB b want) (fOp te X o s) (some (s.put (.tup []) o.dst s.H))
  | .tup [] => some (s.put (.tup []) o.dst s.H)
  | _ => none
noncomputable def fGuardD (te : TE) (X : XE) (o : Oper) (want : Bool) (s : FS) : Option Nat → Option FS
  | some d => fGuardV te X o want s (fget s.T d)
  | none => none
noncomputable def fGuard (te : TE) (X : XE) (all : List Oper) (o : Oper) (s : FS) : Option (Nat × Bool) → Option FS
  | none => fOp te X o s
  | some (j, want) => fGuardD te X o want s (dstAt all j)
def bindF' (f : FS → Option FS) : Option FS → Option FS
  | some s => f s
  | none => none
noncomputable def fSeq (te : TE) (X : XE) (all : List Oper) (l : List Oper) : FS → Option FS :=
  List.rec (motive := fun _ => FS → Option FS) (fun s => some s) (fun o _ ih s => bindF' ih (fGuard te X all o s o.guard)) l

abbrev FF := Option (FS × Foot)
def placesOfE (E : Operand → AV) : List Operand → List Nat
  | [] => []
  | x :: xs => placeOf (E x) ++ placesOfE E xs
def opReadsE (E : Operand → AV) : Op → List Nat
  | .load _ a => placeOf (E a)
  | .store _ a _ => placeOf (E a)
  | .indexAddr _ x _ => placeOf (E x)
  | .slice _ x _ _ _ => placeOf (E x)
  | .call ⟨.builtin _, args, _⟩ => placesOfE E args.toList
  | _ => []
noncomputable def gPut (te : TE) (p : Nat) (s : FS) (o : Oper) : Option Out → FF
  | some ⟨c, v, w, _, _, raw⟩ => whenB (andB (drOK p s.H w) (andB (okC c) (rawB te o.op v raw))) (some (s.put v o.dst (putH s.H w), ⟨p :: fsts w, opReadsE (evT s.T) o.op⟩))
  | none => none
noncomputable def gX (p : Nat) (s : FS) (dst : Option Nat) : Option (AV × Ent) → FF
  | some (x, e) => whenB (drOK p s.H (pushE p e)) (some (s.put (mvR p x) dst (putH s.H (pushE p e)), ⟨p :: fsts (pushE p e), []⟩))
  | none => none
noncomputable def gXD (g : List AV → Option (AV × Ent)) (p : Nat) (s : FS) (dst : Option Nat) : Bool → Rs (List AV) → FF
  | false, some (_, xs) => gX p s dst (g xs)
  | _, _ => none
noncomputable def gXC (p : Nat) (s : FS) (dst : Option Nat) (args : List AV) : Option XS → FF
  | some (.dat g) => gXD g p s dst (namesA args) (rslvL s.H args)
  | _ => none
noncomputable def gXS (te : TE) (X : XE) (p : Nat) (s : FS) (dst : Option Nat) : Op → FF
  | .call ⟨.value f, args, tys⟩ => gXC p s dst (evsE te (evT s.T) args.toList tys.toList) (xCallee X (evT s.T f))
  | _ => none
noncomputable def gXK (te : TE) (X : XE) (p : Nat) (o : Oper) (s : FS) : Option Out → FF
  | some out => gPut te p s o (some out)
  | none => gXS te X p s o.dst o.op
noncomputable def gXO (te : TE) (X : XE) (p : Nat) (o : Oper) (s : FS) : FF := gXK te X p o s (evOpE te p (evT s.T) s.H o.op)
noncomputable def gXGV (te : TE) (X : XE) (p : Nat) (o : Oper) (want : Bool) (s : FS) : AV → FF
  | .bool b => xIf (sameB b want) (gXO te X p o s) (some (s.put (.tup []) o.dst s.H, ⟨[], []⟩))
  | _ => none
noncomputable def gXGD (te : TE) (X : XE) (p : Nat) (o : Oper) (want : Bool) (s : FS) : Option Nat → FF
  | some d => gXGV te X p o want s (fget s.T d)
  | none => none
noncomputable def gXG (te : TE) (X : XE) (all : List Oper) (p : Nat) (o : Oper) (s : FS) : Option (Nat × Bool) → FF
  | none => gXO te X p o s
  | some (j, want) => gXGD te X p o want s (dstAt all j)
def bindG (f : FS → Foot → Option (FS × List Foot)) : FF → Option (FS × List Foot)
  | some (s, g) => f s g
  | none => none
noncomputable def fDr (te : TE) (X : XE) (all : List Oper) : List Oper → Nat → List Foot → FS → Option (FS × List Foot)
  | [], _, done, s => some (s, done)
  | o :: rest, p, done, s => bindG (fun s' g => fDr te X all rest (p + 1) (g :: done) s') (gXG te X all p o s o.guard)
noncomputable def fTail (te : TE) (X : XE) (all : List Oper) (m : Nat) (b : List (List Bool)) : Option (FS × List Foot) → Option FS
  | some (s, done) => whenB (dynOK done b) (fSeq te X all (dropL m all) s)
  | none => none
noncomputable def fDrawM (te : TE) (X : XE) (all : List Oper) (b : List (List Bool)) (m : Nat) (s : FS) : Option FS := fTail te X all m b (fDr te X all (takeL m all) s.H.length [] ⟨s.n, s.T, s.H ++ nones m⟩)
noncomputable def fDraw (te : TE) (X : XE) (all : List Oper) (s : FS) : Option FS := fDrawM te X all (befores all) (freeM (befores all)) s

abbrev FR := Option (Ex × FS)
noncomputable def fReg (te : TE) (X : XE) (all : List Oper) (s : FS) : Bool → Option FS
  | false => fSeq te X all all s
  | true => fDraw te X all s
def normF : Option FS → FR
  | some s => some (.normal, s)
  | none => none
def thenF (f : FS → FR) : FR → FR
  | some (.normal, s) => f s
  | some (.exit i, s) => some (.exit i, s)
  | some (.ret, s) => some (.ret, s)
  | none => none
def outOfF (id : Nat) : FR → FR
  | some (.exit i, s) => xIf (eqb i id) (some (.normal, s)) (some (.exit i, s))
  | some (.normal, s) => some (.normal, s)
  | some (.ret, s) => some (.ret, s)
  | none => none
def fLoop (body : FS → FR) : Nat → FS → FR
  | 0, _ => none
  | n + 1, s => thenF (fLoop body n) (body s)
def fCond (A B : FR) : AV → FR
  | .bool b => xIf b A B
  | _ => none
noncomputable def fCode (te : TE) (X : XE) (N : Nat) (c : Code) : FS → FR :=
  Code.rec (motive := fun _ => FS → FR)
    (fun s => some (.normal, s))
    (fun _ ops dr s => normF (fReg te X ops.toList s dr))
    (fun _ _ ia ib s => thenF ib (ia s))
    (fun c _ _ ia ib s => fCond (ia s) (ib s) (evT s.T c))
    (fun id _ ic s => outOfF id (ic s))
    (fun _ ic s => fLoop ic N s)
    (fun _ _ _ _ _ _ _ => none)
    (fun i s => some (.exit i, s))
    (fun _ _ _ => none)
    (fun _ _ => none)
    (fun _ _ => none)
    (fun s => some (.ret, s))
    (fun _ _ => none) c
noncomputable def fResOne (te : TE) (T : TT) (H : List Ent) (t : TypeId) : ResultVar → Option AV
  | .tmp i => some (rty te t (fget T i))
  | .cell a t => outV (evLoadT H (fget T a) (te t))
noncomputable def fResAll (te : TE) (T : TT) (H : List Ent) : List TypeId → List ResultVar → Option (List AV)
  | _, [] => some []
  | [], _ :: _ => none
  | t :: ts, r :: rs => consO (fResOne te T H t r) (fResAll te T H ts rs)
noncomputable def fEnd (te : TE) (fn : Func) : FR → Option (AV × List Ent)
  | some (.normal, s) => xResV s.H (resV (fResAll te s.T s.H fn.resultTypes.toList fn.results.toList))
  | some (.ret, s) => xResV s.H (resV (fResAll te s.T s.H fn.resultTypes.toList fn.results.toList))
  | some (.exit _, _) => none
  | none => none
noncomputable def fBody (te : TE) (X : XE) (N : Nat) (fn : Func) (args : List AV) (H : List Ent) : Option Code → Option (AV × List Ent)
  | some c => fEnd te fn (fCode te X N c ⟨fn.ntmps, treeOf args 0 .leaf, H⟩)
  | none => none
noncomputable def fFun (te : TE) (X : XE) (N : Nat) (fn : Func) (args : List AV) (H : List Ent) : Option (AV × List Ent) := whenB (andB (Nat.ble args.length fn.ntmps) (Nat.ble fn.ntmps 4000)) (fBody te X N fn args H fn.body)

end Go.Rf
end
/-
  RUNNING, part 4: the tree of temporaries tells the same as the list.
-/
section
set_option linter.unusedVariables false
set_option linter.unusedSimpArgs false
namespace Go.Rf

theorem sel_eq {α : Type} (i : Nat) (a b c : α) : sel i a b c = if i = 0 then a else if i % 2 = 1 then b else c := by
  unfold sel
  by_cases h : i = 0
  · subst h; rfl
  · have h1 : Nat.beq i 0 = false := by cases hb : Nat.beq i 0 with
      | false => rfl
      | true => exact absurd (Nat.eq_of_beq_eq_true hb) h
    rw [h1, if_neg h]
    by_cases h2 : i % 2 = 1
    · have h3 : Nat.beq (Nat.mod i 2) 1 = true := by show Nat.beq (i % 2) 1 = true; rw [h2]; rfl
      rw [h3, if_pos h2]
    · have h3 : Nat.beq (Nat.mod i 2) 1 = false := by
        cases hb : Nat.beq (Nat.mod i 2) 1 with
        | false => rfl
        | true => exact absurd (Nat.eq_of_beq_eq_true hb) h2
      rw [h3, if_neg h2]
theorem fget_leaf (i : Nat) : fget .leaf i = .junk := rfl
theorem fget_node (v : AV) (l r : TT) (i : Nat) : fget (.node v l r) i = if i = 0 then v else if i % 2 = 1 then fget l (i / 2) else fget r (i / 2 - 1) := by
  show sel i v (fget l (Nat.div i 2)) (fget r (Nat.pred (Nat.div i 2))) = _
  rw [sel_eq]
  rfl
theorem fset_leaf (f i : Nat) (v : AV) : fset (f + 1) i v .leaf = if i = 0 then .node v .leaf .leaf else if i % 2 = 1 then .node .junk (fset f (i / 2) v .leaf) .leaf else .node .junk .leaf (fset f (i / 2 - 1) v .leaf) := by
  show sel i _ _ _ = _
  rw [sel_eq]
  rfl
theorem fset_node (f i : Nat) (v u : AV) (l r : TT) : fset (f + 1) i v (.node u l r) = if i = 0 then .node v l r else if i % 2 = 1 then .node u (fset f (i / 2) v l) r else .node u l (fset f (i / 2 - 1) v r) := by
  show sel i _ _ _ = _
  rw [sel_eq]
  rfl

theorem fget_set : ∀ (f i : Nat) (v : AV) (t : TT) (j : Nat), i + 1 < 2 ^ f → fget (fset f i v t) j = if j = i then v else fget t j
  | 0, i, v, t, j, h => by simp at h
  | f + 1, i, v, t, j, h => by
    rw [Nat.pow_succ] at h
    have ih1 := fun (k : Nat) (t : TT) (j : Nat) (hk : k + 1 < 2 ^ f) => fget_set f k v t j hk
    cases t with
    | leaf =>
      rw [fset_leaf]
      by_cases h0 : i = 0
      · rw [if_pos h0, fget_node]
        subst h0
        simp only [fget_leaf]
        split <;> simp
      · rw [if_neg h0]
        by_cases h1 : i % 2 = 1
        · rw [if_pos h1, fget_node]
          by_cases hj : j = 0
          · subst hj; rw [if_pos rfl, if_neg (fun h => h0 h.symm), fget_leaf]
          · rw [if_neg hj]
            by_cases hj1 : j % 2 = 1
            · rw [if_pos hj1, ih1 _ _ _ (by omega), fget_leaf, fget_leaf]
              by_cases e : j = i
              · subst e; simp
              · rw [if_neg (by omega), if_neg e]
            · rw [if_neg hj1, fget_leaf, if_neg (by intro e; subst e; exact hj1 h1), fget_leaf]
        · rw [if_neg h1, fget_node]
          by_cases hj : j = 0
          · subst hj; rw [if_pos rfl, if_neg (fun h => h0 h.symm), fget_leaf]
          · rw [if_neg hj]
            by_cases hj1 : j % 2 = 1
            · rw [if_pos hj1, fget_leaf, if_neg (by intro e; subst e; exact h1 hj1), fget_leaf]
            · rw [if_neg hj1, ih1 _ _ _ (by omega), fget_leaf, fget_leaf]
              by_cases e : j = i
              · subst e; simp
              · rw [if_neg (by omega), if_neg e]
    | node u l r =>
      rw [fset_node, fget_node u l r j]
      by_cases h0 : i = 0
      · rw [if_pos h0, fget_node]
        subst h0
        split <;> rfl
      · rw [if_neg h0]
        by_cases h1 : i % 2 = 1
        · rw [if_pos h1, fget_node]
          by_cases hj : j = 0
          · subst hj; rw [if_pos rfl, if_neg (fun h => h0 h.symm), if_pos rfl]
          · rw [if_neg hj, if_neg hj]
            by_cases hj1 : j % 2 = 1
            · rw [if_pos hj1, if_pos hj1, ih1 _ _ _ (by omega)]
              by_cases e : j = i
              · subst e; simp
              · rw [if_neg (by omega), if_neg e]
            · rw [if_neg hj1, if_neg hj1, if_neg (by intro e; subst e; exact hj1 h1)]
        · rw [if_neg h1, fget_node]
          by_cases hj : j = 0
          · subst hj; rw [if_pos rfl, if_neg (fun h => h0 h.symm), if_pos rfl]
          · rw [if_neg hj, if_neg hj]
            by_cases hj1 : j % 2 = 1
            · rw [if_pos hj1, if_pos hj1, if_neg (by intro e; subst e; exact h1 hj1)]
            · rw [if_neg hj1, if_neg hj1, ih1 _ _ _ (by omega)]
              by_cases e : j = i
              · subst e; simp
              · rw [if_neg (by omega), if_neg e]

/-- The tree tells the list. -/
structure Tells (n : Nat) (t : TT) (T : List AV) : Prop where
  len : T.length = n
  small : n ≤ 4000
  get : ∀ i, fget t i = T.getD i .junk

theorem Tells.put {n : Nat} {t : TT} {T : List AV} (h : Tells n t T) (v : AV) (dst : Option Nat) : Tells n (fput n t v dst) (putT T v dst) := by
  cases dst with
  | none => exact h
  | some d =>
    refine ⟨by simp [putT, h.len], h.small, fun i => ?_⟩
    show fget (Bool.rec t (fset 12 d v t) (Nat.blt d n)) i = (T.set d v).getD i .junk
    have hs := h.small
    by_cases hd : d < n
    · have hb : Nat.blt d n = true := by
        show Nat.ble (d + 1) n = true
        exact Nat.ble_eq_true_of_le hd
      rw [hb]
      show fget (fset 12 d v t) i = _
      rw [fget_set 12 d v t i (by omega), h.get]
      by_cases e : i = d
      · subst e; simp [List.getD_eq_getElem?_getD, h.len, hd]
      · rw [if_neg e]; simp [List.getD_eq_getElem?_getD, List.getElem?_set_ne (Ne.symm e)]
    · have hb : Nat.blt d n = false := by
        cases hb : Nat.blt d n with
        | false => rfl
        | true => exact absurd (Nat.le_of_ble_eq_true hb) hd
      rw [hb]
      show fget t i = _
      rw [h.get, List.set_eq_of_length_le (by rw [h.len]; omega)]

theorem treeOf_get : ∀ (vs : List AV) (i : Nat) (t : TT) (j : Nat), i + vs.length ≤ 4000 → fget (treeOf vs i t) j = if i ≤ j ∧ j < i + vs.length then vs.getD (j - i) .junk else fget t j
  | [], i, t, j, _ => by simp only [treeOf, List.length_nil]; rw [if_neg (by omega)]
  | v :: vs, i, t, j, h => by
    simp only [List.length_cons] at h ⊢
    simp only [treeOf]
    rw [treeOf_get vs (i + 1) _ j (by omega), fget_set 12 i v t j (by omega)]
    by_cases h1 : i + 1 ≤ j ∧ j < i + 1 + vs.length
    · rw [if_pos h1, if_pos (by omega)]
      obtain ⟨k, rfl⟩ : ∃ k, j = i + 1 + k := ⟨j - (i + 1), by omega⟩
      rw [show i + 1 + k - (i + 1) = k by omega, show i + 1 + k - i = k + 1 by omega]
      rfl
    · rw [if_neg h1]
      by_cases h2 : j = i
      · subst h2; rw [if_pos rfl, if_pos (by omega)]; simp
      · rw [if_neg h2, if_neg (by omega)]
theorem padTo_getD (n : Nat) : ∀ (vs : List AV) (j : Nat), vs.length ≤ n → (padTo n vs).getD j .junk = vs.getD j .junk := by
  induction n with
  | zero => intro vs j h; have : vs = [] := List.eq_nil_of_length_eq_zero (by omega); subst this; simp [padTo]
  | succ n ih =>
    intro vs j h
    cases vs with
    | nil =>
      cases j with
      | zero => simp [padTo]
      | succ j => have := ih [] j (by simp); simpa [padTo] using this
    | cons v vs =>
      cases j with
      | zero => simp [padTo]
      | succ j => have := ih vs j (by simpa using h); simpa [padTo] using this
theorem Tells.start {n : Nat} {vs : List AV} (h : vs.length ≤ n) (hn : n ≤ 4000) : Tells n (treeOf vs 0 .leaf) (padTo n vs) := by
  refine ⟨padTo_length _ _, hn, fun i => ?_⟩
  rw [treeOf_get vs 0 .leaf i (by omega), padTo_getD n vs i h, fget_leaf]
  by_cases hi : i < vs.length
  · rw [if_pos (by omega)]; simp
  · rw [if_neg (by omega)]
    simp [List.getD_eq_getElem?_getD, List.getElem?_eq_none (show vs.length ≤ i by omega)]

theorem Tells.ev {n : Nat} {t : TT} {T : List AV} (h : Tells n t T) : evT t = ev T := by
  funext x
  cases x with
  | tmp i => exact h.get i
  | _ => rfl
theorem evsE_eq (te : TE) (T : List AV) : ∀ (xs : List Operand) (ts : List TypeId), evsE te (ev T) xs ts = evs te T xs ts
  | [], _ => rfl
  | x :: xs, [] => by simp only [evsE, evs]; rw [evsE_eq te T xs []]
  | x :: xs, t :: ts => by simp only [evsE, evs]; rw [evsE_eq te T xs ts]
theorem placesOfE_eq (T : List AV) : ∀ (xs : List Operand), placesOfE (ev T) xs = placesOf T xs
  | [] => rfl
  | x :: xs => by simp only [placesOfE, placesOf]; rw [placesOfE_eq T xs]
theorem opReadsE_eq (T : List AV) (op : Op) : opReadsE (ev T) op = opReads T op := by
  cases op with
  | call c =>
    obtain ⟨callee, args, tys⟩ := c
    cases callee <;> first | rfl | exact placesOfE_eq T _
  | _ => rfl

/-- What the tree's run comes to, the list's run comes to. -/
def Sim {α : Type} (x : Option (FS × α)) (y : Option (St × α)) : Prop := ∀ s a, x = some (s, a) → ∃ T, y = some (⟨T, s.H⟩, a) ∧ Tells s.n s.T T
def Sim0 (x : Option FS) (y : Option St) : Prop := ∀ s, x = some s → ∃ T, y = some ⟨T, s.H⟩ ∧ Tells s.n s.T T
def SimE (x : FR) (y : XR) : Prop := ∀ e s, x = some (e, s) → ∃ T, y = some (e, ⟨T, s.H⟩) ∧ Tells s.n s.T T

theorem Sim0.none {y : Option St} : Sim0 none y := fun _ h => by cases h
theorem Sim.none {α : Type} {y : Option (St × α)} : Sim none y := fun _ _ h => by cases h
theorem SimE.none {y : XR} : SimE none y := fun _ _ h => by cases h
theorem Sim0.put {n : Nat} {t : TT} {T : List AV} {H : List Ent} (h : Tells n t T) (v : AV) (dst : Option Nat) (H' : List Ent) : Sim0 (some (FS.put ⟨n, t, H⟩ v dst H')) (some ⟨putT T v dst, H'⟩) := by
  intro s hs
  simp only [FS.put, Option.some.injEq] at hs
  subst hs
  exact ⟨_, rfl, h.put v dst⟩
theorem Sim.put {α : Type} {n : Nat} {t : TT} {T : List AV} {H : List Ent} (h : Tells n t T) (v : AV) (dst : Option Nat) (H' : List Ent) (a : α) : Sim (some (FS.put ⟨n, t, H⟩ v dst H', a)) (some (⟨putT T v dst, H'⟩, a)) := by
  intro s b hs
  simp only [FS.put, Option.some.injEq, Prod.mk.injEq] at hs
  obtain ⟨rfl, rfl⟩ := hs
  exact ⟨_, rfl, h.put v dst⟩
theorem Sim0.when {x : Option FS} {y : Option St} (b : Bool) (h : Sim0 x y) : Sim0 (whenB b x) (whenB b y) := by cases b with | true => exact h | false => exact Sim0.none
theorem Sim.when {α : Type} {x : Option (FS × α)} {y : Option (St × α)} (b : Bool) (h : Sim x y) : Sim (whenB b x) (whenB b y) := by cases b with | true => exact h | false => exact Sim.none
theorem Sim0.if {x x' : Option FS} {y y' : Option St} (b : Bool) (h : Sim0 x y) (h' : Sim0 x' y') : Sim0 (xIf b x x') (xIf b y y') := by cases b <;> assumption
theorem Sim.if {α : Type} {x x' : Option (FS × α)} {y y' : Option (St × α)} (b : Bool) (h : Sim x y) (h' : Sim x' y') : Sim (xIf b x x') (xIf b y y') := by cases b <;> assumption
theorem SimE.if {x x' : FR} {y y' : XR} (b : Bool) (h : SimE x y) (h' : SimE x' y') : SimE (xIf b x x') (xIf b y y') := by cases b <;> assumption

section
variable {n : Nat} {t : TT} {T : List AV} {H : List Ent} (h : Tells n t T)
include h

theorem sim_dat (g : List AV → Option (AV × Ent)) (dst : Option Nat) (b : Bool) (r : Rs (List AV)) : Sim0 (fDatCall g ⟨n, t, H⟩ dst b r) (xDatCall g ⟨T, H⟩ dst b r) := by
  cases r with
  | none => cases b <;> exact Sim0.none
  | some q =>
    obtain ⟨c, xs⟩ := q
    cases b with
    | false =>
      simp only [fDatCall, xDatCall]
      cases g xs with
      | none => exact Sim0.none
      | some x => exact Sim0.put h _ _ _
    | true =>
      simp only [fDatCall, xDatCall]
      refine Sim0.when _ ?_
      cases g xs with
      | none => exact Sim0.none
      | some x =>
        obtain ⟨x, e⟩ := x
        cases e with
        | none => exact Sim0.when _ (Sim0.put h _ _ _)
        | _ => exact Sim0.none
theorem sim_call (dst : Option Nat) (args : List AV) (x : Option XS) : Sim0 (fCall ⟨n, t, H⟩ dst args x) (xCall ⟨T, H⟩ dst args x) := by
  cases x with
  | none => exact Sim0.none
  | some x =>
    cases x with
    | dat g => exact sim_dat h g dst _ _
    | gen g =>
      simp only [fCall, xCall]
      cases g args H with
      | none => exact Sim0.none
      | some p => exact Sim0.put h _ _ _
theorem sim_putO (dst : Option Nat) (o : Option Out) : Sim0 (fPutO ⟨n, t, H⟩ dst o) (putO ⟨T, H⟩ dst o) := by
  cases o with
  | none => exact Sim0.none
  | some o => exact Sim0.when _ (Sim0.put h _ _ _)
omit h in
theorem sim_or {x x' : Option FS} {y y' : Option St} (h1 : Sim0 x y) (h1' : x = none → y = none) (h2 : Sim0 x' y') : Sim0 (orO x x') (orO y y') := by
  cases x with
  | none => rw [h1' rfl]; exact h2
  | some z =>
    intro s hs
    simp only [orO, Option.some.injEq] at hs
    subst hs
    obtain ⟨T', e, k⟩ := h1 z rfl
    exact ⟨T', by rw [e]; rfl, k⟩
omit h in
theorem putO_none (dst : Option Nat) (o : Option Out) (he : fPutO ⟨n, t, H⟩ dst o = none) : putO ⟨T, H⟩ dst o = none := by
  cases o with
  | none => rfl
  | some o =>
    simp only [fPutO, putO] at he ⊢
    cases hb : okC o.c with
    | true => rw [hb] at he; cases he
    | false => rfl
theorem sim_special (te : TE) (X : XE) (dst : Option Nat) (op : Op) : Sim0 (fSpecial te X ⟨n, t, H⟩ dst op) (xSpecial te X ⟨T, H⟩ dst op) := by
  unfold fSpecial xSpecial
  split
  · rename_i f args tys
    show Sim0 (fCall ⟨n, t, H⟩ dst (evsE te (evT t) args.toList tys.toList) (xCallee X (evT t f))) (xCall ⟨T, H⟩ dst (evs te T args.toList tys.toList) (xCallee X (ev T f)))
    rw [h.ev, evsE_eq]
    exact sim_call h dst _ _
  · rename_i b args tys
    show Sim0 (fBuiltin te ⟨n, t, H⟩ dst b args.toList tys.toList) (xBuiltin te ⟨T, H⟩ dst b args.toList tys.toList)
    unfold fBuiltin xBuiltin
    split
    · rename_i x y t1 u1 ha ht
      simp only [ha, ht]
      show Sim0 (fApp ⟨n, t, H⟩ dst (evT t x) (evT t y) (te u1) (elemI te (te t1))) (xApp ⟨T, H⟩ dst (ev T x) (ev T y) (te u1) (elemI te (te t1)))
      rw [h.ev]
      cases elemI te (te t1) with
      | none => exact Sim0.none
      | some i => exact sim_or (sim_putO h _ _) (putO_none _ _) (sim_putO h _ _)
    · exact Sim0.none
  · rename_i op t1 x y ty
    show Sim0 (fBin ⟨n, t, H⟩ dst (evT t x) (andB (isSlice (te t1)) (isNilConst y)) op) (xBin ⟨T, H⟩ dst (ev T x) (andB (isSlice (te t1)) (isNilConst y)) op)
    rw [h.ev]
    have hn : ∀ neq, Sim0 (fNil ⟨n, t, H⟩ dst neq (ev T x)) (xNil ⟨T, H⟩ dst neq (ev T x)) := by
      intro neq
      cases ev T x with
      | sl sz fr es => cases es <;> first | exact Sim0.put h _ _ _ | exact Sim0.none
      | own q v len => cases len <;> first | exact Sim0.put h _ _ _ | exact Sim0.none
      | _ => exact Sim0.none
    cases op <;> simp only [fBin, xBin] <;> first | exact Sim0.when _ (hn _) | exact Sim0.none
  · exact Sim0.none
theorem sim_op (te : TE) (X : XE) (o : Oper) : Sim0 (fOp te X o ⟨n, t, H⟩) (xOp te X o ⟨T, H⟩) := by
  unfold fOp xOp evOp
  show Sim0 (fOpK te X o ⟨n, t, H⟩ (evOpE te H.length (evT t) H o.op)) (xOpK te X o ⟨T, H⟩ (evOpE te H.length (ev T) H o.op))
  rw [h.ev]
  cases evOpE te H.length (ev T) H o.op with
  | none => exact sim_special h te X o.dst o.op
  | some out => exact Sim0.when _ (Sim0.put h _ _ _)
theorem sim_guard (te : TE) (X : XE) (all : List Oper) (o : Oper) (g : Option (Nat × Bool)) : Sim0 (fGuard te X all o ⟨n, t, H⟩ g) (xGuard te X all o ⟨T, H⟩ g) := by
  cases g with
  | none => exact sim_op h te X o
  | some g =>
    obtain ⟨j, want⟩ := g
    simp only [fGuard, xGuard]
    cases dstAt all j with
    | none => exact Sim0.none
    | some d =>
      simp only [fGuardD, xGuardD]
      rw [h.get]
      cases T.getD d .junk with
      | bool b => exact Sim0.if _ (sim_op h te X o) (Sim0.put h _ _ _)
      | tup vs =>
        cases vs with
        | nil => exact Sim0.put h _ _ _
        | cons v vs => exact Sim0.none
      | _ => exact Sim0.none
omit h in
theorem sim_seq (te : TE) (X : XE) (all : List Oper) : ∀ (l : List Oper) {n : Nat} {t : TT} {T : List AV} {H : List Ent} (h : Tells n t T), Sim0 (fSeq te X all l ⟨n, t, H⟩) (xSeq te X all l ⟨T, H⟩)
  | [], n, t, T, H, h => by intro s hs; cases hs; exact ⟨T, rfl, h⟩
  | o :: l, n, t, T, H, h => by
    show Sim0 (bindF' (fSeq te X all l) (fGuard te X all o ⟨n, t, H⟩ o.guard)) (bindS (xSeq te X all l) (xGuard te X all o ⟨T, H⟩ o.guard))
    cases hx : fGuard te X all o ⟨n, t, H⟩ o.guard with
    | none => exact Sim0.none
    | some s =>
      obtain ⟨T', e, k⟩ := sim_guard h te X all o o.guard s hx
      rw [e]
      obtain ⟨n', t', H'⟩ := s
      exact sim_seq te X all l k

theorem sim_drO (te : TE) (X : XE) (p : Nat) (o : Oper) : Sim (gXO te X p o ⟨n, t, H⟩) (drXO te X p o ⟨T, H⟩) := by
  unfold gXO drXO evOp
  show Sim (gXK te X p o ⟨n, t, H⟩ (evOpE te p (evT t) H o.op)) (drXK te X p o ⟨T, H⟩ (evOpE te p (ev T) H o.op))
  rw [h.ev]
  cases evOpE te p (ev T) H o.op with
  | some out =>
    show Sim (whenB _ (some (FS.put ⟨n, t, H⟩ _ _ _, (⟨_, opReadsE (evT t) o.op⟩ : Foot)))) (whenB _ (some (⟨_, _⟩, (⟨_, opReads T o.op⟩ : Foot))))
    rw [h.ev, opReadsE_eq]
    exact Sim.when _ (Sim.put h _ _ _ _)
  | none =>
    simp only [gXK, drXK]
    unfold gXS drXS
    split
    · rename_i f args tys ho
      simp only [ho]
      show Sim (gXC p ⟨n, t, H⟩ o.dst (evsE te (evT t) args.toList tys.toList) (xCallee X (evT t f))) (drXC p ⟨T, H⟩ o.dst (evs te T args.toList tys.toList) (xCallee X (ev T f)))
      rw [h.ev, evsE_eq]
      cases xCallee X (ev T f) with
      | none => exact Sim.none
      | some x =>
        cases x with
        | gen g => exact Sim.none
        | dat g =>
          simp only [gXC, drXC]
          cases rslvL H (evs te T args.toList tys.toList) with
          | none => cases namesA (evs te T args.toList tys.toList) <;> exact Sim.none
          | some q =>
            obtain ⟨c, xs⟩ := q
            cases namesA (evs te T args.toList tys.toList) with
            | true => exact Sim.none
            | false =>
              simp only [gXD, drXD]
              cases g xs with
              | none => exact Sim.none
              | some x => exact Sim.when _ (Sim.put h _ _ _ _)
    · exact Sim.none
theorem sim_drG (te : TE) (X : XE) (all : List Oper) (p : Nat) (o : Oper) (g : Option (Nat × Bool)) : Sim (gXG te X all p o ⟨n, t, H⟩ g) (drXG te X all p o ⟨T, H⟩ g) := by
  cases g with
  | none => exact sim_drO h te X p o
  | some g =>
    obtain ⟨j, want⟩ := g
    simp only [gXG, drXG]
    cases dstAt all j with
    | none => exact Sim.none
    | some d =>
      simp only [gXGD, drXGD]
      rw [h.get]
      cases T.getD d .junk with
      | bool b => exact Sim.if _ (sim_drO h te X p o) (Sim.put h _ _ _ _)
      | _ => exact Sim.none
omit h in
theorem sim_dr (te : TE) (X : XE) (all : List Oper) : ∀ (l : List Oper) (p : Nat) (done : List Foot) {n : Nat} {t : TT} {T : List AV} {H : List Ent} (h : Tells n t T), Sim (fDr te X all l p done ⟨n, t, H⟩) (xDr te X all l p done ⟨T, H⟩)
  | [], p, done, n, t, T, H, h => by
    intro s a hs
    simp only [fDr, Option.some.injEq, Prod.mk.injEq] at hs
    obtain ⟨rfl, rfl⟩ := hs
    exact ⟨T, rfl, h⟩
  | o :: l, p, done, n, t, T, H, h => by
    simp only [fDr, xDr]
    cases hx : gXG te X all p o ⟨n, t, H⟩ o.guard with
    | none => exact Sim.none
    | some q =>
      obtain ⟨s, g⟩ := q
      obtain ⟨T', e, k⟩ := sim_drG h te X all p o o.guard s g hx
      rw [e]
      obtain ⟨n', t', H'⟩ := s
      exact sim_dr te X all l (p + 1) (g :: done) k
theorem sim_draw (te : TE) (X : XE) (all : List Oper) : Sim0 (fDraw te X all ⟨n, t, H⟩) (xDraw te X all ⟨T, H⟩) := by
  unfold fDraw xDraw fDrawM xDrawM
  show Sim0 (fTail te X all _ _ (fDr te X all _ H.length [] ⟨n, t, H ++ nones _⟩)) (xTail te X all _ _ (xDr te X all _ H.length [] ⟨T, H ++ nones _⟩))
  cases hx : fDr te X all (takeL (freeM (befores all)) all) H.length [] ⟨n, t, H ++ nones (freeM (befores all))⟩ with
  | none => exact Sim0.none
  | some q =>
    obtain ⟨s, d⟩ := q
    obtain ⟨T', e, k⟩ := sim_dr te X all _ _ _ h s d hx
    rw [e]
    obtain ⟨n', t', H'⟩ := s
    exact Sim0.when _ (sim_seq te X all _ k)
theorem sim_reg (te : TE) (X : XE) (all : List Oper) (b : Bool) : Sim0 (fReg te X all ⟨n, t, H⟩ b) (xReg te X all ⟨T, H⟩ b) := by
  cases b with
  | false => exact sim_seq te X all all h
  | true => exact sim_draw h te X all
omit h
theorem sim_then {f : FS → FR} {g : St → XR} {x : FR} {y : XR} (h1 : SimE x y) (h2 : ∀ n t T H, Tells n t T → SimE (f ⟨n, t, H⟩) (g ⟨T, H⟩)) : SimE (thenF f x) (thenX g y) := by
  cases x with
  | none => exact SimE.none
  | some q =>
    obtain ⟨e, s⟩ := q
    obtain ⟨T', hy, k⟩ := h1 e s rfl
    rw [hy]
    obtain ⟨n', t', H'⟩ := s
    cases e with
    | normal => exact h2 _ _ _ _ k
    | _ => intro e2 s2 hs; cases hs; exact ⟨T', rfl, k⟩
theorem sim_loop {f : FS → FR} {g : St → XR} (h2 : ∀ n t T H, Tells n t T → SimE (f ⟨n, t, H⟩) (g ⟨T, H⟩)) : ∀ (N n : Nat) (t : TT) (T : List AV) (H : List Ent), Tells n t T → SimE (fLoop f N ⟨n, t, H⟩) (xLoop g N ⟨T, H⟩)
  | 0, n, t, T, H, h => SimE.none
  | N + 1, n, t, T, H, h => sim_then (h2 _ _ _ _ h) (sim_loop h2 N)
theorem sim_code (te : TE) (X : XE) (N : Nat) : ∀ (c : Code) (n : Nat) (t : TT) (T : List AV) (H : List Ent), Tells n t T → SimE (fCode te X N c ⟨n, t, H⟩) (xCode te X N c ⟨T, H⟩) := by
  intro c
  induction c with
  | skip => intro n t T H h e s hs; cases hs; exact ⟨T, rfl, h⟩
  | ret => intro n t T H h e s hs; cases hs; exact ⟨T, rfl, h⟩
  | exit i => intro n t T H h e s hs; cases hs; exact ⟨T, rfl, h⟩
  | region id ops dr =>
    intro n t T H h
    show SimE (normF (fReg te X ops.toList ⟨n, t, H⟩ dr)) (norm (xReg te X ops.toList ⟨T, H⟩ dr))
    cases hx : fReg te X ops.toList ⟨n, t, H⟩ dr with
    | none => exact SimE.none
    | some s =>
      obtain ⟨T', e, k⟩ := sim_reg h te X ops.toList dr s hx
      rw [e]
      intro e2 s2 hs
      cases hs
      exact ⟨T', rfl, k⟩
  | seq x y ihx ihy =>
    intro n t T H h
    exact sim_then (ihx n t T H h) ihy
  | cond c x y ihx ihy =>
    intro n t T H h
    show SimE (fCond (fCode te X N x ⟨n, t, H⟩) (fCode te X N y ⟨n, t, H⟩) (evT t c)) (xCond (xCode te X N x ⟨T, H⟩) (xCode te X N y ⟨T, H⟩) (ev T c))
    rw [h.ev]
    cases ev T c with
    | bool b => exact SimE.if _ (ihx n t T H h) (ihy n t T H h)
    | _ => exact SimE.none
  | block id c ih =>
    intro n t T H h
    show SimE (outOfF id (fCode te X N c ⟨n, t, H⟩)) (outOf id (xCode te X N c ⟨T, H⟩))
    have h1 := ih n t T H h
    cases hx : fCode te X N c ⟨n, t, H⟩ with
    | none => exact SimE.none
    | some q =>
      obtain ⟨e, s⟩ := q
      obtain ⟨T', hy, k⟩ := h1 e s hx
      rw [hy]
      cases e with
      | exit i =>
        simp only [outOfF, outOf]
        refine SimE.if _ ?_ ?_
        · intro e2 s2 hs; cases hs; exact ⟨T', rfl, k⟩
        · intro e2 s2 hs; cases hs; exact ⟨T', rfl, k⟩
      | _ => intro e2 s2 hs; cases hs; exact ⟨T', rfl, k⟩
  | loop c ih =>
    intro n t T H h
    exact sim_loop ih N n t T H h
  | _ => intro n t T H h; exact SimE.none
end

theorem fResAll_eq {n : Nat} {t : TT} {T : List AV} (h : Tells n t T) (te : TE) (H : List Ent) : ∀ (ts : List TypeId) (rs : List ResultVar), fResAll te t H ts rs = resAll te T H ts rs
  | [], [] => rfl
  | _ :: _, [] => rfl
  | [], _ :: _ => rfl
  | ty :: ts, r :: rs => by
    simp only [fResAll, resAll]
    rw [fResAll_eq h te H ts rs]
    congr 1
    cases r with
    | tmp i => simp only [fResOne, resOne]; rw [h.get]
    | cell a u => simp only [fResOne, resOne]; rw [h.get]

theorem fFun_eq {te : TE} {X : XE} {N : Nat} {fn : Func} {args : List AV} {H : List Ent} {r : AV × List Ent} (h : fFun te X N fn args H = some r) : xFun te X N fn args H = some r := by
  unfold fFun at h
  obtain ⟨h1, h2⟩ := whenB_some h
  obtain ⟨h3, h4⟩ := andB_true h1
  have hle := Nat.le_of_ble_eq_true h3
  have hsm := Nat.le_of_ble_eq_true h4
  have hleb : ∀ {a b : Nat}, a ≤ b → leb a b = true := by
    intro a
    induction a with
    | zero => intro b _; rfl
    | succ a ih => intro b hb; cases b with
      | zero => omega
      | succ b => exact ih (by omega)
  unfold xFun
  rw [hleb hle]
  show xBody te X N fn args H fn.body = some r
  cases hb : fn.body with
  | none => rw [hb] at h2; cases h2
  | some c =>
    rw [hb] at h2
    simp only [fBody] at h2
    simp only [xBody]
    have hstart := Tells.start hle hsm
    cases hx : fCode te X N c ⟨fn.ntmps, treeOf args 0 .leaf, H⟩ with
    | none => rw [hx] at h2; cases h2
    | some q =>
      obtain ⟨e, s⟩ := q
      obtain ⟨T', hy, k⟩ := sim_code te X N c _ _ _ H hstart e s hx
      rw [hx] at h2
      rw [hy]
      cases e with
      | exit i => cases h2
      | normal => simp only [fEnd, xEnd] at h2 ⊢; rw [← fResAll_eq k]; exact h2
      | ret => simp only [fEnd, xEnd] at h2 ⊢; rw [← fResAll_eq k]; exact h2

section
variable {P : Program}
theorem fGen_sound {te : TE} (hte : TEok P te) {X : XE} (hX : Sound P X.env) (hmix : P.follows .mixedOrders = true) {f : FuncId} {fn : Func} (hf : IsFun P f fn) (hst : codeStat (fn.body.getD .skip) = true) (N : Nat) :
    SpecSound P f (XS.spec (.gen (fFun te X N fn))) := by
  rintro w S ρ H xs args Φ hm hargs ⟨r, H', hr, hΦ⟩
  exact xFun_sound hte hX hmix hf hst N w S ρ H xs args Φ hm hargs ⟨r, H', fFun_eq hr, hΦ⟩
/-- A function on data, run on the tree. -/
noncomputable def fDat (te : TE) (X : XE) (N : Nat) (fn : Func) : List AV → Option (AV × Ent) := datOf 8 (fFun te X N fn)
theorem fDat_sound {te : TE} (hte : TEok P te) {X : XE} (hX : Sound P X.env) (hmix : P.follows .mixedOrders = true) {f : FuncId} {fn : Func} (hf : IsFun P f fn) (hst : codeStat (fn.body.getD .skip) = true) (N : Nat) :
    SpecSound P f (XS.spec (.dat (fDat te X N fn))) := datOf_sound (fGen_sound hte hX hmix hf hst N) 8
noncomputable def fHyb (te : TE) (X : XE) (N : Nat) (fn : Func) : List AV → List Ent → Option (AV × List Ent) := hyb (fDat te X N fn) (fFun te X N fn)
theorem fHyb_sound {te : TE} (hte : TEok P te) {X : XE} (hX : Sound P X.env) (hmix : P.follows .mixedOrders = true) {f : FuncId} {fn : Func} (hf : IsFun P f fn) (hst : codeStat (fn.body.getD .skip) = true) (N : Nat) :
    SpecSound P f (XS.spec (.gen (fHyb te X N fn))) := hyb_sound (fDat_sound hte hX hmix hf hst N) (fGen_sound hte hX hmix hf hst N)
end
end Go.Rf
end
