/-
  Of two replies: the formulas of the functions that compare them, and of the law.
-/
import Derived.Test.YtdojencjbmahpaaGreatDoorSmC
namespace Go.Proofs.YtdojencjbmahpaaGreatDoor
open Go.Rf
set_option maxRecDepth 100000
set_option linter.unusedVariables false
def eqB (es fs : List (List AV)) : Bool := ((strOf es).toList == (strOf fs).toList)
theorem v61 (a b : Bool) (es fs : List (List AV)) (Φ : AV → List Ent → Prop) : wFun te nGE Tryz.f61 [.sl 1 a es, .sl 1 b fs] [] Φ = ((∀ e ∈ es, isByte e) ∧ (∀ e ∈ fs, isByte e) ∧ Φ (.bool (eqB es fs)) []) := by kernel_rfl
def g2B : List AV → AV
  | [.sl _ _ es, .sl _ _ fs] => .bool (eqB es fs)
  | _ => .junk
def C2B : List AV → Prop
  | [.sl 1 _ es, .sl 1 _ fs] => (∀ e ∈ es, isByte e) ∧ (∀ e ∈ fs, isByte e)
  | _ => False
def g2S : List AV → AV
  | [.sl _ _ es, .sl _ _ fs] => .bool (eqS es fs)
  | _ => .junk
def C2S : List AV → Prop
  | [.sl 1 _ es, .sl 1 _ fs] => AllStr es ∧ AllStr fs ∧ es.length ≤ 9223372036854775806
  | _ => False
def sameI (i1 i2 i3 i4 i5 j1 j2 j3 j4 j5 : Int) : Bool := ((i1 == j1) && ((i2 == j2) && ((i3 == j3) && ((i4 == j4) && ((i5 == j5) && true)))))
def gSame : List AV → AV
  | [.agg [.sl 1 _ d, .sl 1 _ n, .int .i64 i1, .int .i64 i2, .int .i64 i3, .int .i64 i4, .int .i64 i5], .agg [.sl 1 _ d', .sl 1 _ n', .int .i64 j1, .int .i64 j2, .int .i64 j3, .int .i64 j4, .int .i64 j5]] => .bool (eqB d d' && (eqS n n' && sameI i1 i2 i3 i4 i5 j1 j2 j3 j4 j5))
  | _ => .junk
def CSame : List AV → Prop
  | [.agg [.sl 1 _ d, .sl 1 _ n, .int .i64 i1, .int .i64 i2, .int .i64 i3, .int .i64 i4, .int .i64 i5], .agg [.sl 1 _ d', .sl 1 _ n', .int .i64 j1, .int .i64 j2, .int .i64 j3, .int .i64 j4, .int .i64 j5]] => (∀ e ∈ d, isByte e) ∧ (∀ e ∈ d', isByte e) ∧ AllStr n ∧ AllStr n' ∧ n.length ≤ 9223372036854775806
  | _ => False
def G35 : GE := fun f => match f with
  | 61 => some (.fn C2B g2B)
  | 62 => some (.fn C2S g2S)
  | _ => none
def G23 : GE := fun f => match f with
  | 31 => some (.fn C2S g2S)
  | _ => none
def G12 : GE := fun f => match f with
  | 35 => some (.fn CSame gSame)
  | 23 => some (.fn CSame gSame)
  | 36 => some (.fn (fun xs => xs = []) (fun _ => .bool true))
  | _ => none
theorem v35 (a b a' b' : Bool) (d n d' n' : List (List AV)) (i1 i2 i3 i4 i5 j1 j2 j3 j4 j5 : Int) (Φ : AV → List Ent → Prop) : wFun te G35 Tryz.f35 [.agg [.sl 1 a d, .sl 1 b n, .int .i64 i1, .int .i64 i2, .int .i64 i3, .int .i64 i4, .int .i64 i5], .agg [.sl 1 a' d', .sl 1 b' n', .int .i64 j1, .int .i64 j2, .int .i64 j3, .int .i64 j4, .int .i64 j5]] [] Φ =
  (C2B [.sl 1 false d, .sl 1 false d'] ∧ ifB (eqB d d') (C2S [.sl 1 false n, .sl 1 false n'] ∧ ifB (eqS n n') (Φ (.bool (sameI i1 i2 i3 i4 i5 j1 j2 j3 j4 j5)) [.var [.sl 1 a d, .sl 1 b n, .int .i64 i1, .int .i64 i2, .int .i64 i3, .int .i64 i4, .int .i64 i5], .var [.sl 1 a' d', .sl 1 b' n', .int .i64 j1, .int .i64 j2, .int .i64 j3, .int .i64 j4, .int .i64 j5]]) (Φ (.bool false) [.var [.sl 1 a d, .sl 1 b n, .int .i64 i1, .int .i64 i2, .int .i64 i3, .int .i64 i4, .int .i64 i5], .var [.sl 1 a' d', .sl 1 b' n', .int .i64 j1, .int .i64 j2, .int .i64 j3, .int .i64 j4, .int .i64 j5]])) (Φ (.bool false) [.var [.sl 1 a d, .sl 1 b n, .int .i64 i1, .int .i64 i2, .int .i64 i3, .int .i64 i4, .int .i64 i5], .var [.sl 1 a' d', .sl 1 b' n', .int .i64 j1, .int .i64 j2, .int .i64 j3, .int .i64 j4, .int .i64 j5]])) := by kernel_rfl
theorem v23 (a b a' b' : Bool) (d n d' n' : List (List AV)) (i1 i2 i3 i4 i5 j1 j2 j3 j4 j5 : Int) (Φ : AV → List Ent → Prop) : wFun te G23 Tryz.f23 [.agg [.sl 1 a d, .sl 1 b n, .int .i64 i1, .int .i64 i2, .int .i64 i3, .int .i64 i4, .int .i64 i5], .agg [.sl 1 a' d', .sl 1 b' n', .int .i64 j1, .int .i64 j2, .int .i64 j3, .int .i64 j4, .int .i64 j5]] [] Φ =
  ((∀ e ∈ d, isByte e) ∧ (∀ e ∈ d', isByte e) ∧ ifB (eqB d d') (C2S [.sl 1 false n, .sl 1 false n'] ∧ ifB (eqS n n') (Φ (.bool (sameI i1 i2 i3 i4 i5 j1 j2 j3 j4 j5)) [.var [.sl 1 a d, .sl 1 b n, .int .i64 i1, .int .i64 i2, .int .i64 i3, .int .i64 i4, .int .i64 i5], .var [.sl 1 a' d', .sl 1 b' n', .int .i64 j1, .int .i64 j2, .int .i64 j3, .int .i64 j4, .int .i64 j5]]) (Φ (.bool false) [.var [.sl 1 a d, .sl 1 b n, .int .i64 i1, .int .i64 i2, .int .i64 i3, .int .i64 i4, .int .i64 i5], .var [.sl 1 a' d', .sl 1 b' n', .int .i64 j1, .int .i64 j2, .int .i64 j3, .int .i64 j4, .int .i64 j5]])) (Φ (.bool false) [.var [.sl 1 a d, .sl 1 b n, .int .i64 i1, .int .i64 i2, .int .i64 i3, .int .i64 i4, .int .i64 i5], .var [.sl 1 a' d', .sl 1 b' n', .int .i64 j1, .int .i64 j2, .int .i64 j3, .int .i64 j4, .int .i64 j5]])) := by kernel_rfl
theorem v12 (a b a' b' : Bool) (d n d' n' : List (List AV)) (i1 i2 i3 i4 i5 j1 j2 j3 j4 j5 : Int) (Φ : AV → List Ent → Prop) : wFun te G12 Tryz.f12 [.agg [.sl 1 a d, .sl 1 b n, .int .i64 i1, .int .i64 i2, .int .i64 i3, .int .i64 i4, .int .i64 i5], .agg [.sl 1 a' d', .sl 1 b' n', .int .i64 j1, .int .i64 j2, .int .i64 j3, .int .i64 j4, .int .i64 j5]] [] Φ =
  (ifB (!leI d.length 100) (Φ (.bool true) [.var [.sl 1 a d, .sl 1 b n, .int .i64 i1, .int .i64 i2, .int .i64 i3, .int .i64 i4, .int .i64 i5], .var [.sl 1 a' d', .sl 1 b' n', .int .i64 j1, .int .i64 j2, .int .i64 j3, .int .i64 j4, .int .i64 j5]]) (ifB (!leI d'.length 100) (Φ (.bool true) [.var [.sl 1 a d, .sl 1 b n, .int .i64 i1, .int .i64 i2, .int .i64 i3, .int .i64 i4, .int .i64 i5], .var [.sl 1 a' d', .sl 1 b' n', .int .i64 j1, .int .i64 j2, .int .i64 j3, .int .i64 j4, .int .i64 j5]]) (ifB (!leI n.length 20) (Φ (.bool true) [.var [.sl 1 a d, .sl 1 b n, .int .i64 i1, .int .i64 i2, .int .i64 i3, .int .i64 i4, .int .i64 i5], .var [.sl 1 a' d', .sl 1 b' n', .int .i64 j1, .int .i64 j2, .int .i64 j3, .int .i64 j4, .int .i64 j5]]) (ifB (!leI n'.length 20) (Φ (.bool true) [.var [.sl 1 a d, .sl 1 b n, .int .i64 i1, .int .i64 i2, .int .i64 i3, .int .i64 i4, .int .i64 i5], .var [.sl 1 a' d', .sl 1 b' n', .int .i64 j1, .int .i64 j2, .int .i64 j3, .int .i64 j4, .int .i64 j5]])
    (CSame [.agg [.sl 1 false d, .sl 1 false n, .int .i64 i1, .int .i64 i2, .int .i64 i3, .int .i64 i4, .int .i64 i5], .agg [.sl 1 false d', .sl 1 false n', .int .i64 j1, .int .i64 j2, .int .i64 j3, .int .i64 j4, .int .i64 j5]] ∧ CSame [.agg [.sl 1 false d, .sl 1 false n, .int .i64 i1, .int .i64 i2, .int .i64 i3, .int .i64 i4, .int .i64 i5], .agg [.sl 1 false d', .sl 1 false n', .int .i64 j1, .int .i64 j2, .int .i64 j3, .int .i64 j4, .int .i64 j5]] ∧
      ifB ((eqB d d' && (eqS n n' && sameI i1 i2 i3 i4 i5 j1 j2 j3 j4 j5)) == (eqB d d' && (eqS n n' && sameI i1 i2 i3 i4 i5 j1 j2 j3 j4 j5)))
        (CSame [.agg [.sl 1 false d, .sl 1 false n, .int .i64 i1, .int .i64 i2, .int .i64 i3, .int .i64 i4, .int .i64 i5], .agg [.sl 1 false d, .sl 1 false n, .int .i64 i1, .int .i64 i2, .int .i64 i3, .int .i64 i4, .int .i64 i5]] ∧ ifB (eqB d d && (eqS n n && sameI i1 i2 i3 i4 i5 i1 i2 i3 i4 i5)) (([] : List AV) = [] ∧ Φ (.bool true) [.var [.sl 1 a d, .sl 1 b n, .int .i64 i1, .int .i64 i2, .int .i64 i3, .int .i64 i4, .int .i64 i5], .var [.sl 1 a' d', .sl 1 b' n', .int .i64 j1, .int .i64 j2, .int .i64 j3, .int .i64 j4, .int .i64 j5], .none, .none, .none, .none, .none, .none, .none, .none, .none, .none]) (Φ (.bool false) [.var [.sl 1 a d, .sl 1 b n, .int .i64 i1, .int .i64 i2, .int .i64 i3, .int .i64 i4, .int .i64 i5], .var [.sl 1 a' d', .sl 1 b' n', .int .i64 j1, .int .i64 j2, .int .i64 j3, .int .i64 j4, .int .i64 j5], .none, .none, .none, .none, .none, .none, .none, .none, .none, .none]))
        (Φ (.bool false) [.var [.sl 1 a d, .sl 1 b n, .int .i64 i1, .int .i64 i2, .int .i64 i3, .int .i64 i4, .int .i64 i5], .var [.sl 1 a' d', .sl 1 b' n', .int .i64 j1, .int .i64 j2, .int .i64 j3, .int .i64 j4, .int .i64 j5], .none, .none, .none, .none, .none, .none, .none, .none, .none, .none])))))) := by kernel_rfl
end Go.Proofs.YtdojencjbmahpaaGreatDoor
