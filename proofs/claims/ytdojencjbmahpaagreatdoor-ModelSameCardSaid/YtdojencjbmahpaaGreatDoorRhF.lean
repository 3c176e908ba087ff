/-
  LIBRARY FUNCTIONS, part 4: slices.Delete and slices.Insert on an array of the call's own: what they come to, and how to see it of their formulas.
-/
import Derived.Test.YtdojencjbmahpaaGreatDoorRhE
set_option linter.unusedVariables false
set_option linter.unusedSimpArgs false
namespace Go.Rf

def zrI : Option TI → List AV
  | some i => nfs i.zero
  | none => []
def zr (te : TE) (t : TypeId) : List AV := zrI (te t)

theorem ifB_both {b : Bool} {A B : Prop} (h1 : b = true → A) (h2 : b = false → B) : ifB b A B := by cases b with | true => exact h1 rfl | false => exact h2 rfl
theorem eqb_self (n : Nat) : eqb n n = true := by induction n with | zero => rfl | succ n ih => exact ih
theorem fits_self (sz : Nat) (es : List (List AV)) : fits sz sz es = true := by
  cases es with
  | nil => rfl
  | cons e es => exact eqb_self sz
theorem limE_self (v off len sz : Nat) (cl : Bool) (c : Option Nat) (es : List (List AV)) (h : len ≤ es.length - off) : limE v off len (.arr cl v sz c es) = es.length - off := by
  simp only [limE]
  have : Nat.beq v v = true := Nat.beq_refl v
  rw [this]
  simp only [limE.limB]
  rw [if_pos h]

/-- slices.Delete. -/
def xDel (es : List (List AV)) : List AV → Option (List (List AV))
  | [.int .i64 i, .int .i64 j] => whenB (decide (0 ≤ i ∧ i ≤ j ∧ j ≤ (es.length : Int))) (some (es.take i.toNat ++ es.drop j.toNat))
  | _ => none
/-- slices.Insert. -/
def xIns (sz bytes : Nat) (es : List (List AV)) : List AV → Option (List (List AV))
  | [.int .i64 i, .sl z _ vs] => whenB (andB (decide (0 ≤ i ∧ i ≤ (es.length : Int))) (andB (Nat.beq z sz) (decide (es.length + vs.length ≤ 1000000 ∧ bytes ≤ 1000)))) (some (es.take i.toNat ++ vs ++ es.drop i.toNat))
  | _ => none

/-- What slices.overlaps is asked: a row that nobody writes, and an array of the call's own. -/
def ovE (q ver : Nat) : Ent → Prop
  | .arr _ v _ _ _ => v = ver
  | _ => False
def ovOK : List AV → List Ent → Prop
  | [.sl (_ + 1) _ _, .osub q ver _ _], H => ovE q ver (H.getD q .none)
  | _, _ => False
def gOv : GSpec := fun args H Φ => ovOK args H ∧ Φ (.bool false) H
def ovEnv (k : Nat) : GE := fun f => match Nat.beq f k with
  | true => some (.gen gOv)
  | false => none

end Go.Rf
