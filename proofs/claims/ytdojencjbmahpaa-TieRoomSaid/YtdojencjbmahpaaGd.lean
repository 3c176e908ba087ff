/-
  Texts of the proof, put together: RhE, RhF, RhG, RhH, RhI, RhJ, RhK, RhL, RhM, RhN, RhO, RhP, RhQ, RhR.
-/
import Derived.Test.YtdojencjbmahpaaGc
import Derived.IntWalk
import Derived.Laws.LoneSync
import Derived.Lib.Overlaps
import Derived.Lib.Bytealg
import Derived.ProofKit
import Derived.OpenShut
import Derived.JoinedCond
import Derived.Deep.Slices
import Derived.Deep.Strs
import Derived.WideKeyArgs
/-
  RUNNING, part 5: a function on data that hands one array of its own over with its result.
-/
section
set_option linter.unusedVariables false
set_option linter.unusedSimpArgs false
namespace Go.Rf

def keepSame (N : Nat) (q : Nat) (H : List Ent) (v len q' : Nat) : Bool → Option AV
  | true => some (.own 0 v len)
  | false => deepC (some q) N H (.own q' v len)
def keep1 (N : Nat) (q : Nat) (H : List Ent) : AV → Option AV
  | .own q' v len => keepSame N q H v len q' (Nat.beq q' q)
  | a => deepC (some q) N H a
def keepEnd (v sz : Nat) (es : List (List AV)) : Option (List AV) → Option (AV × Ent)
  | some ys => some (.agg ys, .arr true v sz none es)
  | none => none
def keepE (N q : Nat) (H : List Ent) (cs : List AV) : Ent → Option (AV × Ent)
  | .arr true v sz _ es => keepEnd v sz es (mapC (keep1 N q H) cs)
  | _ => none
def keepQ (N : Nat) (H : List Ent) (cs : List AV) : AV → Option (AV × Ent)
  | .own q _ _ => keepE N q H cs (H.getD q .none)
  | _ => none
def keepOut (N i : Nat) : Option (AV × List Ent) → Option (AV × Ent)
  | some (.agg cs, H) => keepQ N H cs (cs.getD i .junk)
  | _ => none
def datKeep (N i : Nat) (g : List AV → List Ent → Option (AV × List Ent)) (xs : List AV) : Option (AV × Ent) := keepOut N i (g xs [])

section
variable {P : Program} {w : World} {S : Nat → Prop} {ρ : Reg} {H : List Ent}

theorem keep1_rd (hm : RH w S ρ H) (N q : Nat) (a x : AV) (v : Value) (h : keep1 N q H a = some x) (hv : Rd w S ρ H.length a v) : Rd w (lentX S ρ H (some q)) (fun _ => ρ q) 1 x v := by
  have hdeep : deepC (some q) N H a = some x → Rd w (lentX S ρ H (some q)) (fun _ => ρ q) 1 x v := fun h =>
    (deepC_rd (some q) hm N a x v h hv 0).mono (Later.refl _ _) (Nat.zero_le _) (fun p hp => absurd hp (by omega))
  unfold keep1 at h
  split at h
  · rename_i q' ver len
    cases hb : Nat.beq q' q with
    | false => rw [hb] at h; exact hdeep h
    | true =>
      rw [hb] at h
      have := Nat.eq_of_beq_eq_true hb
      subst this
      simp only [keepSame, Option.some.injEq] at h
      subst h
      cases hv with
      | own _ _ _ _ A cap0 hp hver hcp hA hr => exact .own _ _ _ _ _ _ Nat.one_pos hver hcp hA hr
  · exact hdeep h

theorem datKeep_sound {f : FuncId} {g : List AV → List Ent → Option (AV × List Ent)} (hg : SpecSound P f (XS.spec (.gen g))) (N i : Nat) : SpecSound P f (XS.spec (.dat (datKeep N i g))) := by
  rintro w S ρ xs args Φ hS hargs ⟨x, e, hx, hΦ⟩
  have hno : ∀ (ρ : Reg) k, ¬ Own ρ [] k := by rintro ρ k ⟨p, e, he, _⟩; simp at he
  have hm : RH w S ρ [] := ⟨by simp, by simp, fun k hk => ⟨hS k hk, hno ρ k⟩⟩
  unfold datKeep at hx
  cases hr : g xs [] with
  | none => rw [hr] at hx; cases hx
  | some p =>
    obtain ⟨r, H'⟩ := p
    rw [hr] at hx
    cases r with
    | agg cs =>
      simp only [keepOut] at hx
      cases hc : cs.getD i .junk with
      | own q v0 l0 =>
        rw [hc] at hx
        simp only [keepQ] at hx
        cases hq : H'.getD q .none with
        | none => rw [hq] at hx; cases hx
        | var => rw [hq] at hx; cases hx
        | arr cl v sz cap es =>
          rw [hq] at hx
          cases cl with
          | false => cases hx
          | true =>
            simp only [keepE] at hx
            cases hk : mapC (keep1 N q H') cs with
            | none => rw [hk] at hx; cases hx
            | some ys =>
              rw [hk] at hx
              simp only [keepEnd, Option.some.injEq, Prod.mk.injEq] at hx
              obtain ⟨rfl, rfl⟩ := hx
              have hget := getD_some hq (by simp)
              refine CallRuns.mono (hg w S ρ [] xs args (fun r2 H2 => r2 = .agg cs ∧ H2 = H') hm hargs ⟨_, H', hr, rfl, rfl⟩) ?_
              rintro u w' ⟨_, H', S', ρ', ⟨rfl, rfl⟩, h2, h3, h4⟩
              have h5 := lend_rh h2 hget
              have hsub : ∀ k, Own (fun _ => ρ' q) [Ent.arr true v sz cap es] k → Own ρ' H' k ∧ live ρ' q (.arr true v sz cap es) ∧ (ρ' q).blk = k := by
                rintro k ⟨r, e, he, hl, hk⟩
                cases r with
                | zero => simp at he; subst he; exact ⟨⟨q, _, hget, show 0 < (ρ' q).cap from hl, hk⟩, show 0 < (ρ' q).cap from hl, hk⟩
                | succ r => simp at he
              have hsub' : ∀ k, Own (fun _ => ρ' q) (entL (.arr true v sz none es)) k → Own ρ' H' k ∧ live ρ' q (.arr true v sz cap es) ∧ (ρ' q).blk = k := by
                rintro k ⟨r, e, he, hl, hk⟩
                cases r with
                | zero => simp [entL] at he; subst he; exact ⟨⟨q, _, hget, show 0 < (ρ' q).cap from hl, hk⟩, show 0 < (ρ' q).cap from hl, hk⟩
                | succ r => simp [entL] at he
              refine ⟨.agg ys, .arr true v sz none es, lentX S' ρ' H' (some q), fun _ => ρ' q, hΦ, rfl, ⟨?_, ?_, ?_⟩, ?_, ?_⟩
              · intro r e he
                cases r with
                | zero =>
                  simp [entL] at he
                  subst he
                  obtain ⟨e1, e2, e3, e4, e5, e6, e7, e8, e9⟩ := h5.ent 0 _ rfl
                  refine ⟨e1, e2, e3, e4, e5, e6, by simp, e8, fun hcp => ?_⟩
                  obtain ⟨cs, ty, k1, k2, k3, k4⟩ := e9 hcp
                  exact ⟨cs, ty, k1, k2, k3, fun i k e a v he ha hv => (k4 i k e a v he ha hv).mono (fun _ hk => ⟨.inl hk, rfl⟩) (Nat.le_refl _) (fun p hp => absurd hp (by simp))⟩
                | succ r => simp [entL] at he
              · intro r t e f hr ht _ _ hne
                cases r with
                | zero => cases t with
                  | zero => exact absurd rfl hne
                  | succ t => simp [entL] at ht
                | succ r => simp [entL] at hr
              · intro k hk
                rcases hk with hk | ⟨p, e, g1, g2, g3, g4⟩
                · exact ⟨(h2.stab k hk).1, fun ho => (h2.stab k hk).2 (hsub' k ho).1⟩
                · refine ⟨h2.own_lt ⟨p, e, g1, g3, g4⟩, fun ho => ?_⟩
                  obtain ⟨_, o2, o3⟩ := hsub' k ho
                  have hne : p ≠ q := by
                    intro h
                    subst h
                    simp [notAv] at g2
                  exact h2.apart p q e _ g1 hget g3 o2 hne (by rw [g4, o3])
              · cases h3 with
                | agg _ _ vs hl h1 hr' =>
                  obtain ⟨k1, k2⟩ := mapC_get hk
                  refine .agg _ ys vs (by omega) h1 fun j y z hy hz => ?_
                  obtain ⟨b, hb, hfb⟩ := k2 j y hy
                  exact keep1_rd h2 N q b y z hfb (hr' j b z hb hz)
              · refine ⟨h4.os, h4.tape, h4.output, h4.size, fun k hk _ => h4.keep k hk (hno ρ k), fun k hk => ?_, fun k hk => .inl (h4.up k hk), ?_, Nat.zero_le _, fun p hp => absurd hp (by omega)⟩
                · rcases h4.own k (hsub' k hk).1 with h | h
                  · exact absurd h (hno ρ k)
                  · exact .inr h
                · rintro k (hk | ⟨p, e, g1, g2, g3, g4⟩)
                  · rcases h4.down k hk with h | h | h
                    · exact .inl h
                    · exact absurd h (hno ρ k)
                    · exact .inr (.inr h)
                  · rcases h4.own k ⟨p, e, g1, g3, g4⟩ with h | h
                    · exact absurd h (hno ρ k)
                    · exact .inr (.inr h)
      | _ => rw [hc] at hx; cases hx
    | _ => cases hx

noncomputable def fKeep (i : Nat) (te : TE) (X : XE) (N : Nat) (fn : Func) : List AV → Option (AV × Ent) := datKeep 8 i (fFun te X N fn)
theorem fKeep_sound (i : Nat) {te : TE} (hte : TEok P te) {X : XE} (hX : Sound P X.env) (hmix : P.follows .mixedOrders = true) {f : FuncId} {fn : Func} (hf : IsFun P f fn) (hst : codeStat (fn.body.getD .skip) = true) (N : Nat) :
    SpecSound P f (XS.spec (.dat (fKeep i te X N fn))) := datKeep_sound (fGen_sound hte hX hmix hf hst N) 8 i

end
end Go.Rf
end
/-
  LIBRARY FUNCTIONS, part 4: slices.Delete and slices.Insert on an array of the call's own: what they come to, and how to see it of their formulas.
-/
section
set_option linter.unusedVariables false
set_option linter.unusedSimpArgs false
namespace Go.Rf

def zrI : Option TI → List AV
  | some i => nfs i.zero
  | none => []
def zr (te : TE) (t : TypeId) : List AV := zrI (te t)

theorem ifB_both {b : Bool} {A B : Prop} (h1 : b = true → A) (h2 : b = false → B) : ifB b A B := by cases b with | true => exact h1 rfl | false => exact h2 rfl
theorem eqb_self (n : Nat) : eqb n n = true := by induction n with | zero => rfl | succ n ih => exact ih
theorem fits_self (sz : Nat) (es : List (List AV)) : fits sz sz es = true := by
  cases es with
  | nil => rfl
  | cons e es => exact eqb_self sz
theorem limE_self (v off len sz : Nat) (cl : Bool) (c : Option Nat) (es : List (List AV)) (h : len ≤ es.length - off) : limE v off len (.arr cl v sz c es) = es.length - off := by
  simp only [limE]
  have : Nat.beq v v = true := Nat.beq_refl v
  rw [this]
  simp only [limE.limB]
  rw [if_pos h]

/-- slices.Delete. -/
def xDel (es : List (List AV)) : List AV → Option (List (List AV))
  | [.int .i64 i, .int .i64 j] => whenB (decide (0 ≤ i ∧ i ≤ j ∧ j ≤ (es.length : Int))) (some (es.take i.toNat ++ es.drop j.toNat))
  | _ => none
/-- slices.Insert. -/
def xIns (sz bytes : Nat) (es : List (List AV)) : List AV → Option (List (List AV))
  | [.int .i64 i, .sl z _ vs] => whenB (andB (decide (0 ≤ i ∧ i ≤ (es.length : Int))) (andB (Nat.beq z sz) (decide (es.length + vs.length ≤ 1000000 ∧ bytes ≤ 1000)))) (some (es.take i.toNat ++ vs ++ es.drop i.toNat))
  | _ => none

/-- What slices.overlaps is asked: a row that nobody writes, and an array of the call's own. -/
def ovE (q ver : Nat) : Ent → Prop
  | .arr _ v _ _ _ => v = ver
  | _ => False
def ovOK : List AV → List Ent → Prop
  | [.sl (_ + 1) _ _, .osub q ver _ _], H => ovE q ver (H.getD q .none)
  | _, _ => False
def gOv : GSpec := fun args H Φ => ovOK args H ∧ Φ (.bool false) H
def ovEnv (k : Nat) : GE := fun f => match Nat.beq f k with
  | true => some (.gen gOv)
  | false => none

end Go.Rf
end
/-
  LIBRARY FUNCTIONS, part 5: the formulas of slices.Delete and slices.Insert, printed by a program of this claim's own.
-/
section
set_option linter.unusedVariables false
namespace Go.Rf
def rd0 (te : TE) (el sz : Nat) (i j : Int) (es : List (List AV)) : Nat := (0 + ((0 : Int) : Int).toNat)
def rd1 (te : TE) (el sz : Nat) (i j : Int) (es : List (List AV)) : Nat := ((i : Int).toNat - ((0 : Int) : Int).toNat)
def rd2 (te : TE) (el sz : Nat) (i j : Int) (es : List (List AV)) : Nat := (((es.length : Int) : Int).toNat - (j : Int).toNat)
def rd3 (te : TE) (el sz : Nat) (i j : Int) (es : List (List AV)) : List (List AV) := (List.take (rd2 te el sz i j es) (List.drop (0 + (j : Int).toNat) es))
def rd4 (te : TE) (el sz : Nat) (i j : Int) (es : List (List AV)) : List (List AV) := (List.take (rd1 te el sz i j es) es ++ (rd3 te el sz i j es) ++ List.drop ((rd1 te el sz i j es) + ((rd3 te el sz i j es)).length) es)
def rd5 (te : TE) (el sz : Nat) (i j : Int) (es : List (List AV)) : Nat := ((rd1 te el sz i j es) + ((rd3 te el sz i j es)).length)
def rd6 (te : TE) (el sz : Nat) (i j : Int) (es : List (List AV)) : Int := (((rd5 te el sz i j es) : Nat) : Int)
def rd7 (te : TE) (el sz : Nat) (i j : Int) (es : List (List AV)) : Nat := (0 + ((rd6 te el sz i j es) : Int).toNat)
def rd8 (te : TE) (el sz : Nat) (i j : Int) (es : List (List AV)) : Nat := ((((es.length : Nat) : Int) : Int).toNat - ((rd6 te el sz i j es) : Int).toNat)
def rd9 (te : TE) (el sz : Nat) (i j : Int) (es : List (List AV)) : List (List AV) := (List.take (rd7 te el sz i j es) (rd4 te el sz i j es) ++ List.replicate (rd8 te el sz i j es) (zr te el) ++ List.drop ((rd7 te el sz i j es) + (rd8 te el sz i j es)) (rd4 te el sz i j es))
def delF (te : TE) (ty el sz byt : Nat) (v : Nat) (i j : Int) (es : List (List AV)) (Φ : AV → List Ent → Prop) : Prop :=
((0 ≤ i ∧ i ≤ j ∧ j ≤ ((es.length : Nat) : Int) ∧ ((es.length : Nat) : Int) ≤ (es.length : Int)) ∧ (ifB (i == j) (Φ (.own 0 v es.length) [(.arr true v sz none es)]) ((0 ≤ (0 : Int) ∧ (0 : Int) ≤ i ∧ i ≤ (es.length : Int)) ∧ ((0 ≤ j ∧ j ≤ (es.length : Int) ∧ (es.length : Int) ≤ (es.length : Int)) ∧ ((((v = v ∧ (0 + (j : Int).toNat) + (rd2 te el sz i j es) ≤ (es).length) ∧ (fits sz sz (rd3 te el sz i j es) = true ∧ v = v ∧ (rd0 te el sz i j es) = 0 ∧ (rd1 te el sz i j es) + ((rd3 te el sz i j es)).length ≤ (es).length)) ∧ ((0 ≤ (rd6 te el sz i j es) ∧ (rd6 te el sz i j es) ≤ ((es.length : Nat) : Int) ∧ ((es.length : Nat) : Int) ≤ (limE v 0 (rd5 te el sz i j es) (.arr true v sz none (rd4 te el sz i j es)) : Int)) ∧ ((v = v ∧ (rd7 te el sz i j es) + (rd8 te el sz i j es) ≤ ((rd4 te el sz i j es)).length) ∧ (Φ (.osub 0 v 0 (rd5 te el sz i j es)) [(.arr true v sz none (rd9 te el sz i j es)), .none, .none, .none, .none, .none, .none])))) ∨ False)))))
def ri0 (te : TE) (el sz : Nat) (i : Int) (es vs : List (List AV)) : Nat := (((es.length : Int) : Int).toNat - (i : Int).toNat)
def ri1 (te : TE) (el sz : Nat) (i : Int) (es vs : List (List AV)) : Nat := ((es).length + (vs).length)
def ri2 (te : TE) (el sz : Nat) (i : Int) (es vs : List (List AV)) : Int := (IntKind.i64.wrap (((es.length : Nat) : Int) + ((vs).length : Int)))
def ri3 (te : TE) (el sz : Nat) (i : Int) (es vs : List (List AV)) : Nat := (0 + ((0 : Int) : Int).toNat)
def ri4 (te : TE) (el sz : Nat) (i : Int) (es vs : List (List AV)) : Nat := ((i : Int).toNat - ((0 : Int) : Int).toNat)
def ri5 (te : TE) (el sz : Nat) (i : Int) (es vs : List (List AV)) : Int := (IntKind.i64.wrap ((ri2 te el sz i es vs) - i))
def ri6 (te : TE) (el sz : Nat) (i : Int) (es vs : List (List AV)) : List (List AV) := (List.replicate ((ri5 te el sz i es vs) : Int).toNat (zr te el))
def ri7 (te : TE) (el sz : Nat) (i : Int) (es vs : List (List AV)) : List (List AV) := (List.take (ri4 te el sz i es vs) es ++ (ri6 te el sz i es vs) ++ List.drop ((ri4 te el sz i es vs) + ((ri6 te el sz i es vs)).length) es)
def ri8 (te : TE) (el sz : Nat) (i : Int) (es vs : List (List AV)) : Nat := ((ri4 te el sz i es vs) + ((ri6 te el sz i es vs)).length)
def ri9 (te : TE) (el sz : Nat) (i : Int) (es vs : List (List AV)) : Nat := ((((ri8 te el sz i es vs) : Int) : Int).toNat - (i : Int).toNat)
def ri10 (te : TE) (el sz : Nat) (i : Int) (es vs : List (List AV)) : Nat := (min (vs).length (ri9 te el sz i es vs))
def ri11 (te : TE) (el sz : Nat) (i : Int) (es vs : List (List AV)) : List (List AV) := (List.take (0 + (i : Int).toNat) (ri7 te el sz i es vs) ++ List.take (ri10 te el sz i es vs) vs ++ List.drop ((0 + (i : Int).toNat) + (ri10 te el sz i es vs)) (ri7 te el sz i es vs))
def ri12 (te : TE) (el sz : Nat) (i : Int) (es vs : List (List AV)) : Int := (((ri10 te el sz i es vs) : Nat) : Int)
def ri13 (te : TE) (el sz : Nat) (i : Int) (es vs : List (List AV)) : Int := (IntKind.i64.wrap (i + ((vs).length : Int)))
def ri14 (te : TE) (el sz : Nat) (i : Int) (es vs : List (List AV)) : Nat := (0 + ((ri13 te el sz i es vs) : Int).toNat)
def ri15 (te : TE) (el sz : Nat) (i : Int) (es vs : List (List AV)) : Nat := ((((ri8 te el sz i es vs) : Int) : Int).toNat - ((ri13 te el sz i es vs) : Int).toNat)
def ri16 (te : TE) (el sz : Nat) (i : Int) (es vs : List (List AV)) : List (List AV) := (List.take (ri0 te el sz i es vs) (List.drop (0 + (i : Int).toNat) (ri11 te el sz i es vs)))
def ri17 (te : TE) (el sz : Nat) (i : Int) (es vs : List (List AV)) : Nat := (min ((ri16 te el sz i es vs)).length (ri15 te el sz i es vs))
def ri18 (te : TE) (el sz : Nat) (i : Int) (es vs : List (List AV)) : List (List AV) := (List.take (ri14 te el sz i es vs) (ri11 te el sz i es vs) ++ List.take (ri17 te el sz i es vs) (ri16 te el sz i es vs) ++ List.drop ((ri14 te el sz i es vs) + (ri17 te el sz i es vs)) (ri11 te el sz i es vs))
def ri19 (te : TE) (el sz : Nat) (i : Int) (es vs : List (List AV)) : Int := (((ri17 te el sz i es vs) : Nat) : Int)
def ri20 (te : TE) (el sz : Nat) (i : Int) (es vs : List (List AV)) : List (List AV) := (List.take (ri4 te el sz i es vs) es ++ (ri6 te el sz i es vs))
def ri21 (te : TE) (el sz : Nat) (i : Int) (es vs : List (List AV)) : List (List AV) := (List.take (0 + (i : Int).toNat) (ri20 te el sz i es vs) ++ List.take (ri10 te el sz i es vs) vs ++ List.drop ((0 + (i : Int).toNat) + (ri10 te el sz i es vs)) (ri20 te el sz i es vs))
def ri22 (te : TE) (el sz : Nat) (i : Int) (es vs : List (List AV)) : List (List AV) := (List.take (ri0 te el sz i es vs) (List.drop (0 + (i : Int).toNat) es))
def ri23 (te : TE) (el sz : Nat) (i : Int) (es vs : List (List AV)) : Nat := (min ((ri22 te el sz i es vs)).length (ri15 te el sz i es vs))
def ri24 (te : TE) (el sz : Nat) (i : Int) (es vs : List (List AV)) : List (List AV) := (List.take (ri14 te el sz i es vs) (ri21 te el sz i es vs) ++ List.take (ri23 te el sz i es vs) (ri22 te el sz i es vs) ++ List.drop ((ri14 te el sz i es vs) + (ri23 te el sz i es vs)) (ri21 te el sz i es vs))
def ri25 (te : TE) (el sz : Nat) (i : Int) (es vs : List (List AV)) : Int := (((ri23 te el sz i es vs) : Nat) : Int)
def ri26 (te : TE) (el sz : Nat) (i : Int) (es vs : List (List AV)) : List (List AV) := (es ++ List.replicate ((i : Int).toNat - (es).length) (List.replicate sz .junk))
def ri27 (te : TE) (el sz : Nat) (i : Int) (es vs : List (List AV)) : List (List AV) := ((ri26 te el sz i es vs) ++ (ri6 te el sz i es vs))
def ri28 (te : TE) (el sz : Nat) (i : Int) (es vs : List (List AV)) : Nat := (((ri26 te el sz i es vs)).length + ((ri6 te el sz i es vs)).length)
def ri29 (te : TE) (el sz : Nat) (i : Int) (es vs : List (List AV)) : Nat := ((((ri28 te el sz i es vs) : Int) : Int).toNat - (i : Int).toNat)
def ri30 (te : TE) (el sz : Nat) (i : Int) (es vs : List (List AV)) : Nat := (min (vs).length (ri29 te el sz i es vs))
def ri31 (te : TE) (el sz : Nat) (i : Int) (es vs : List (List AV)) : List (List AV) := (List.take (0 + (i : Int).toNat) (ri27 te el sz i es vs) ++ List.take (ri30 te el sz i es vs) vs ++ List.drop ((0 + (i : Int).toNat) + (ri30 te el sz i es vs)) (ri27 te el sz i es vs))
def ri32 (te : TE) (el sz : Nat) (i : Int) (es vs : List (List AV)) : Int := (((ri30 te el sz i es vs) : Nat) : Int)
def ri33 (te : TE) (el sz : Nat) (i : Int) (es vs : List (List AV)) : Nat := ((((ri28 te el sz i es vs) : Int) : Int).toNat - ((ri13 te el sz i es vs) : Int).toNat)
def ri34 (te : TE) (el sz : Nat) (i : Int) (es vs : List (List AV)) : List (List AV) := (List.take (ri0 te el sz i es vs) (List.drop (0 + (i : Int).toNat) (ri31 te el sz i es vs)))
def ri35 (te : TE) (el sz : Nat) (i : Int) (es vs : List (List AV)) : Nat := (min ((ri34 te el sz i es vs)).length (ri33 te el sz i es vs))
def ri36 (te : TE) (el sz : Nat) (i : Int) (es vs : List (List AV)) : List (List AV) := (List.take (ri14 te el sz i es vs) (ri31 te el sz i es vs) ++ List.take (ri35 te el sz i es vs) (ri34 te el sz i es vs) ++ List.drop ((ri14 te el sz i es vs) + (ri35 te el sz i es vs)) (ri31 te el sz i es vs))
def ri37 (te : TE) (el sz : Nat) (i : Int) (es vs : List (List AV)) : Int := (((ri35 te el sz i es vs) : Nat) : Int)
def ri38 (te : TE) (el sz : Nat) (i : Int) (es vs : List (List AV)) : Nat := (((ri2 te el sz i es vs) : Int).toNat - ((0 : Int) : Int).toNat)
def ri39 (te : TE) (el sz : Nat) (i : Int) (es vs : List (List AV)) : Nat := ((ri3 te el sz i es vs) + ((ri13 te el sz i es vs) : Int).toNat)
def ri40 (te : TE) (el sz : Nat) (i : Int) (es vs : List (List AV)) : Nat := ((((ri38 te el sz i es vs) : Int) : Int).toNat - ((ri13 te el sz i es vs) : Int).toNat)
def ri41 (te : TE) (el sz : Nat) (i : Int) (es vs : List (List AV)) : Nat := ((ri3 te el sz i es vs) + (i : Int).toNat)
def ri42 (te : TE) (el sz : Nat) (i : Int) (es vs : List (List AV)) : Nat := ((((ri38 te el sz i es vs) : Int) : Int).toNat - (i : Int).toNat)
def ri43 (te : TE) (el sz : Nat) (i : Int) (es vs : List (List AV)) : List (List AV) := (List.take (ri42 te el sz i es vs) (List.drop (ri41 te el sz i es vs) es))
def ri44 (te : TE) (el sz : Nat) (i : Int) (es vs : List (List AV)) : Nat := (min ((ri43 te el sz i es vs)).length (ri40 te el sz i es vs))
def ri45 (te : TE) (el sz : Nat) (i : Int) (es vs : List (List AV)) : List (List AV) := (List.take (ri39 te el sz i es vs) es ++ List.take (ri44 te el sz i es vs) (ri43 te el sz i es vs) ++ List.drop ((ri39 te el sz i es vs) + (ri44 te el sz i es vs)) es)
def ri46 (te : TE) (el sz : Nat) (i : Int) (es vs : List (List AV)) : Int := (((ri44 te el sz i es vs) : Nat) : Int)
def ri47 (te : TE) (el sz : Nat) (i : Int) (es vs : List (List AV)) : Nat := (min (vs).length (ri42 te el sz i es vs))
def ri48 (te : TE) (el sz : Nat) (i : Int) (es vs : List (List AV)) : List (List AV) := (List.take (ri41 te el sz i es vs) (ri45 te el sz i es vs) ++ List.take (ri47 te el sz i es vs) vs ++ List.drop ((ri41 te el sz i es vs) + (ri47 te el sz i es vs)) (ri45 te el sz i es vs))
def ri49 (te : TE) (el sz : Nat) (i : Int) (es vs : List (List AV)) : Int := (((ri47 te el sz i es vs) : Nat) : Int)
def ri50 (te : TE) (el sz : Nat) (i : Int) (es vs : List (List AV)) : List (List AV) := (es ++ List.replicate (((ri2 te el sz i es vs) : Int).toNat - (es).length) (List.replicate sz .junk))
def ri51 (te : TE) (el sz : Nat) (i : Int) (es vs : List (List AV)) : Nat := ((ri2 te el sz i es vs) : Int).toNat
def ri52 (te : TE) (el sz : Nat) (i : Int) (es vs : List (List AV)) : Nat := ((((ri51 te el sz i es vs) : Int) : Int).toNat - ((ri13 te el sz i es vs) : Int).toNat)
def ri53 (te : TE) (el sz : Nat) (i : Int) (es vs : List (List AV)) : Nat := ((((ri51 te el sz i es vs) : Int) : Int).toNat - (i : Int).toNat)
def ri54 (te : TE) (el sz : Nat) (i : Int) (es vs : List (List AV)) : List (List AV) := (List.take (ri53 te el sz i es vs) (List.drop (0 + (i : Int).toNat) (ri50 te el sz i es vs)))
def ri55 (te : TE) (el sz : Nat) (i : Int) (es vs : List (List AV)) : Nat := (min ((ri54 te el sz i es vs)).length (ri52 te el sz i es vs))
def ri56 (te : TE) (el sz : Nat) (i : Int) (es vs : List (List AV)) : List (List AV) := (List.take (ri14 te el sz i es vs) (ri50 te el sz i es vs) ++ List.take (ri55 te el sz i es vs) (ri54 te el sz i es vs) ++ List.drop ((ri14 te el sz i es vs) + (ri55 te el sz i es vs)) (ri50 te el sz i es vs))
def ri57 (te : TE) (el sz : Nat) (i : Int) (es vs : List (List AV)) : Int := (((ri55 te el sz i es vs) : Nat) : Int)
def ri58 (te : TE) (el sz : Nat) (i : Int) (es vs : List (List AV)) : Nat := (min (vs).length (ri53 te el sz i es vs))
def ri59 (te : TE) (el sz : Nat) (i : Int) (es vs : List (List AV)) : List (List AV) := (List.take (0 + (i : Int).toNat) (ri56 te el sz i es vs) ++ List.take (ri58 te el sz i es vs) vs ++ List.drop ((0 + (i : Int).toNat) + (ri58 te el sz i es vs)) (ri56 te el sz i es vs))
def ri60 (te : TE) (el sz : Nat) (i : Int) (es vs : List (List AV)) : Int := (((ri58 te el sz i es vs) : Nat) : Int)
def insF (te : TE) (ty el sz byt : Nat) (v : Nat) (i : Int) (z : Nat) (fr : Bool) (es vs : List (List AV)) (Φ : AV → List Ent → Prop) : Prop :=
((0 ≤ i ∧ i ≤ (es.length : Int) ∧ (es.length : Int) ≤ (es.length : Int)) ∧ (ifB (((vs).length : Int) == (0)) (Φ (.own 0 v es.length) [(.arr true v sz none es)]) (ifB (i == ((es.length : Nat) : Int)) ((fits z sz vs = true ∧ v = v ∧ es.length = (es).length ∧ room ((es).length + (vs).length) byt) ∧ (Φ (.own 0 (v + 1) (ri1 te el sz i es vs)) [(.arr true (v + 1) sz none (es ++ vs))])) ((v = v ∧ es.length = (es).length) ∧ ∀ C : Nat, (es).length ≤ C → C ≤ 9223372036854775807 → (ifB (!leI (ri2 te el sz i es vs) (C : Int)) (((0 ≤ (0 : Int) ∧ (0 : Int) ≤ i ∧ i ≤ (es.length : Int)) ∧ ((((0 ≤ (ri5 te el sz i es vs) ∧ (ri5 te el sz i es vs) * byt ≤ 140737488355328) ∧ (fits sz sz (ri6 te el sz i es vs) = true ∧ v = v ∧ (ri3 te el sz i es vs) = 0 ∧ (ri4 te el sz i es vs) + ((ri6 te el sz i es vs)).length ≤ (es).length)) ∧ ((0 ≤ i ∧ i ≤ ((ri8 te el sz i es vs) : Int) ∧ ((ri8 te el sz i es vs) : Int) ≤ (limE v 0 (ri8 te el sz i es vs) (.arr true v sz (some C) (ri7 te el sz i es vs)) : Int)) ∧ ((fits z sz vs = true ∧ v = v ∧ ((0 + (i : Int).toNat) + (ri9 te el sz i es vs) ≤ ((ri7 te el sz i es vs)).length)) ∧ ((0 ≤ (ri13 te el sz i es vs) ∧ (ri13 te el sz i es vs) ≤ ((ri8 te el sz i es vs) : Int) ∧ ((ri8 te el sz i es vs) : Int) ≤ (limE v 0 (ri8 te el sz i es vs) (.arr true v sz (some C) (ri11 te el sz i es vs)) : Int)) ∧ ((0 ≤ i ∧ i ≤ (es.length : Int) ∧ (es.length : Int) ≤ (es.length : Int)) ∧ (((v = v ∧ (0 + (i : Int).toNat) + (ri0 te el sz i es vs) ≤ ((ri11 te el sz i es vs)).length) ∧ (fits sz sz (ri16 te el sz i es vs) = true ∧ v = v ∧ ((ri14 te el sz i es vs) + (ri15 te el sz i es vs) ≤ ((ri11 te el sz i es vs)).length))) ∧ (Φ (.osub 0 v 0 (ri8 te el sz i es vs)) [(.arr true v sz (some C) (ri18 te el sz i es vs)), .none, .none, .none, .none, .none, .none, .none, .none]))))))) ∨ (((0 ≤ (ri5 te el sz i es vs) ∧ (ri5 te el sz i es vs) * byt ≤ 140737488355328) ∧ (fits sz sz (ri6 te el sz i es vs) = true ∧ v = v ∧ (ri3 te el sz i es vs) = 0 ∧ (ri4 te el sz i es vs) ≤ (es).length ∧ C < (ri4 te el sz i es vs) + ((ri6 te el sz i es vs)).length ∧ room ((ri4 te el sz i es vs) + ((ri6 te el sz i es vs)).length) byt)) ∧ ((0 ≤ i ∧ i ≤ ((ri8 te el sz i es vs) : Int) ∧ ((ri8 te el sz i es vs) : Int) ≤ ((ri8 te el sz i es vs) : Int)) ∧ ((fits z sz vs = true ∧ 1 = 1 ∧ ((0 + (i : Int).toNat) + (ri9 te el sz i es vs) ≤ ((ri20 te el sz i es vs)).length)) ∧ ((0 ≤ (ri13 te el sz i es vs) ∧ (ri13 te el sz i es vs) ≤ ((ri8 te el sz i es vs) : Int) ∧ ((ri8 te el sz i es vs) : Int) ≤ ((ri8 te el sz i es vs) : Int)) ∧ ((0 ≤ i ∧ i ≤ (es.length : Int) ∧ (es.length : Int) ≤ (es.length : Int)) ∧ (((v = v ∧ (0 + (i : Int).toNat) + (ri0 te el sz i es vs) ≤ (es).length) ∧ (fits sz sz (ri22 te el sz i es vs) = true ∧ 1 = 1 ∧ ((ri14 te el sz i es vs) + (ri15 te el sz i es vs) ≤ ((ri21 te el sz i es vs)).length))) ∧ (Φ (.own 1 1 (ri8 te el sz i es vs)) [(.arr true v sz (some C) es), (.arr true 1 sz none (ri24 te el sz i es vs)), .none, .none, .none, .none, .none, .none, .none, .none]))))))))) ∨ ((v = v ∧ es.length = (es).length ∧ ((es).length : Int) ≤ i ∧ i ≤ (C : Int)) ∧ (((0 ≤ (ri5 te el sz i es vs) ∧ (ri5 te el sz i es vs) * byt ≤ 140737488355328) ∧ (fits sz sz (ri6 te el sz i es vs) = true ∧ v = v ∧ (i : Int).toNat = ((ri26 te el sz i es vs)).length ∧ room (((ri26 te el sz i es vs)).length + ((ri6 te el sz i es vs)).length) byt)) ∧ ((0 ≤ i ∧ i ≤ ((ri28 te el sz i es vs) : Int) ∧ ((ri28 te el sz i es vs) : Int) ≤ ((ri28 te el sz i es vs) : Int)) ∧ ((fits z sz vs = true ∧ (v + 1) = (v + 1) ∧ ((0 + (i : Int).toNat) + (ri29 te el sz i es vs) ≤ ((ri27 te el sz i es vs)).length)) ∧ ((0 ≤ (ri13 te el sz i es vs) ∧ (ri13 te el sz i es vs) ≤ ((ri28 te el sz i es vs) : Int) ∧ ((ri28 te el sz i es vs) : Int) ≤ ((ri28 te el sz i es vs) : Int)) ∧ ((0 ≤ i ∧ i ≤ (es.length : Int) ∧ (es.length : Int) ≤ (es.length : Int)) ∧ ((((v + 1) = v ∧ (0 + (i : Int).toNat) + (ri0 te el sz i es vs) ≤ ((ri31 te el sz i es vs)).length) ∧ (fits sz sz (ri34 te el sz i es vs) = true ∧ (v + 1) = (v + 1) ∧ ((ri14 te el sz i es vs) + (ri33 te el sz i es vs) ≤ ((ri31 te el sz i es vs)).length))) ∧ (Φ (.own 0 (v + 1) (ri28 te el sz i es vs)) [(.arr true (v + 1) sz none (ri36 te el sz i es vs)), .none, .none, .none, .none, .none, .none, .none, .none]))))))))) (((0 ≤ (0 : Int) ∧ (0 : Int) ≤ (ri2 te el sz i es vs) ∧ (ri2 te el sz i es vs) ≤ (es.length : Int)) ∧ ((0 ≤ (ri13 te el sz i es vs) ∧ (ri13 te el sz i es vs) ≤ ((ri38 te el sz i es vs) : Int) ∧ ((ri38 te el sz i es vs) : Int) ≤ (limE v (ri3 te el sz i es vs) (ri38 te el sz i es vs) (.arr true v sz (some C) es) : Int)) ∧ (ovOK [rty te ty (.sl z fr vs), (.osub 0 v (ri39 te el sz i es vs) (ri40 te el sz i es vs))] [(.arr true v sz (some C) es)] ∧ ((0 ≤ (ri13 te el sz i es vs) ∧ (ri13 te el sz i es vs) ≤ ((ri38 te el sz i es vs) : Int) ∧ ((ri38 te el sz i es vs) : Int) ≤ (limE v (ri3 te el sz i es vs) (ri38 te el sz i es vs) (.arr true v sz (some C) es) : Int)) ∧ ((0 ≤ i ∧ i ≤ ((ri38 te el sz i es vs) : Int) ∧ ((ri38 te el sz i es vs) : Int) ≤ (limE v (ri3 te el sz i es vs) (ri38 te el sz i es vs) (.arr true v sz (some C) es) : Int)) ∧ (((v = v ∧ (ri41 te el sz i es vs) + (ri42 te el sz i es vs) ≤ (es).length) ∧ (fits sz sz (ri43 te el sz i es vs) = true ∧ v = v ∧ ((ri39 te el sz i es vs) + (ri40 te el sz i es vs) ≤ (es).length))) ∧ ((0 ≤ i ∧ i ≤ ((ri38 te el sz i es vs) : Int) ∧ ((ri38 te el sz i es vs) : Int) ≤ (limE v (ri3 te el sz i es vs) (ri38 te el sz i es vs) (.arr true v sz (some C) (ri45 te el sz i es vs)) : Int)) ∧ ((fits z sz vs = true ∧ v = v ∧ ((ri41 te el sz i es vs) + (ri42 te el sz i es vs) ≤ ((ri45 te el sz i es vs)).length)) ∧ (Φ (.osub 0 v (ri3 te el sz i es vs) (ri38 te el sz i es vs)) [(.arr true v sz (some C) (ri48 te el sz i es vs)), .none, .none, .none, .none, .none, .none, .none, .none]))))))))) ∨ ((v = v ∧ es.length = (es).length ∧ ((es).length : Int) ≤ (ri2 te el sz i es vs) ∧ (ri2 te el sz i es vs) ≤ (C : Int)) ∧ ((0 ≤ (ri13 te el sz i es vs) ∧ (ri13 te el sz i es vs) ≤ ((ri51 te el sz i es vs) : Int) ∧ ((ri51 te el sz i es vs) : Int) ≤ ((ri51 te el sz i es vs) : Int)) ∧ (ovOK [rty te ty (.sl z fr vs), (.osub 0 v (ri14 te el sz i es vs) (ri52 te el sz i es vs))] [(.arr true v sz (some C) (ri50 te el sz i es vs))] ∧ ((0 ≤ (ri13 te el sz i es vs) ∧ (ri13 te el sz i es vs) ≤ ((ri51 te el sz i es vs) : Int) ∧ ((ri51 te el sz i es vs) : Int) ≤ ((ri51 te el sz i es vs) : Int)) ∧ ((0 ≤ i ∧ i ≤ ((ri51 te el sz i es vs) : Int) ∧ ((ri51 te el sz i es vs) : Int) ≤ ((ri51 te el sz i es vs) : Int)) ∧ (((v = v ∧ (0 + (i : Int).toNat) + (ri53 te el sz i es vs) ≤ ((ri50 te el sz i es vs)).length) ∧ (fits sz sz (ri54 te el sz i es vs) = true ∧ v = v ∧ ((ri14 te el sz i es vs) + (ri52 te el sz i es vs) ≤ ((ri50 te el sz i es vs)).length))) ∧ ((0 ≤ i ∧ i ≤ ((ri51 te el sz i es vs) : Int) ∧ ((ri51 te el sz i es vs) : Int) ≤ ((ri51 te el sz i es vs) : Int)) ∧ ((fits z sz vs = true ∧ v = v ∧ ((0 + (i : Int).toNat) + (ri53 te el sz i es vs) ≤ ((ri56 te el sz i es vs)).length)) ∧ (Φ (.own 0 v (ri51 te el sz i es vs)) [(.arr true v sz (some C) (ri59 te el sz i es vs)), .none, .none, .none, .none, .none, .none, .none, .none])))))))))))))))
end Go.Rf
end
/-
  LIBRARY FUNCTIONS, part 6: slices.Delete and slices.Insert give what they should.
-/
section
set_option linter.unusedVariables false
set_option linter.unusedSimpArgs false
set_option maxHeartbeats 4000000
namespace Go.Rf

theorem del_list (es W : List (List AV)) (a b : Nat) (hab : a ≤ b) (hb : b ≤ es.length) (hW : ∀ k, (W.take k).length ≤ k) :
    (es.take a ++ (es.drop b).take (es.length - b) ++ es.drop (a + ((es.drop b).take (es.length - b)).length)).take (a + (es.length - b)) = es.take a ++ es.drop b := by
  have h1 : (es.drop b).take (es.length - b) = es.drop b := List.take_of_length_le (by simp)
  rw [h1]
  have h2 : (es.take a ++ es.drop b).length = a + (es.length - b) := by simp; omega
  rw [List.take_append_of_le_length (by omega), List.take_of_length_le (by omega)]

theorem delF_lend (te : TE) (ty el sz byt v : Nat) (i j : Int) (es es' : List (List AV)) (h0 : 0 ≤ i) (h1 : i ≤ j) (h2 : j ≤ (es.length : Int)) (he : es' = es.take i.toNat ++ es.drop j.toNat) :
    delF te ty el sz byt v i j es (LendR sz es') := by
  obtain ⟨a, rfl⟩ := Int.eq_ofNat_of_zero_le h0
  obtain ⟨b, rfl⟩ := Int.eq_ofNat_of_zero_le (Int.le_trans h0 h1)
  have hab : a ≤ b := by omega
  have hb : b ≤ es.length := by omega
  simp only [Int.toNat_natCast] at he
  have e1 : rd1 te el sz a b es = a := by simp [rd1]
  have e2 : rd2 te el sz a b es = es.length - b := by simp [rd2]
  have e3 : rd3 te el sz a b es = es.drop b := by simp only [rd3, e2, Int.toNat_natCast, Nat.zero_add]; exact List.take_of_length_le (by simp)
  have e5 : rd5 te el sz a b es = a + (es.length - b) := by simp [rd5, e1, e3]
  have e4 : rd4 te el sz a b es = es.take a ++ es.drop b ++ es.drop (a + (es.length - b)) := by simp [rd4, e1, e3]
  have e4l : (rd4 te el sz a b es).length = es.length := by rw [e4]; simp; omega
  have e6 : rd6 te el sz a b es = ((a + (es.length - b) : Nat) : Int) := by simp [rd6, e5]
  have e7 : rd7 te el sz a b es = a + (es.length - b) := by simp [rd7, e6]; omega
  have e8 : rd8 te el sz a b es = es.length - (a + (es.length - b)) := by simp [rd8, e6]; omega
  unfold delF
  refine ⟨⟨by omega, by omega, by omega, by omega⟩, ifB_both (fun hb' => ?_) (fun _ => ?_)⟩
  · have : a = b := by have := eq_of_beq hb'; omega
    subst this
    refine ⟨0, v, es.length, none, es, rfl, ?_, ?_, .inl rfl⟩
    · rw [he, List.take_length, List.take_append_drop]
    · rw [he, List.take_append_drop]
  · refine ⟨⟨by omega, by omega, by omega⟩, ⟨by omega, by omega, by omega⟩, .inl ⟨⟨⟨rfl, ?_⟩, fits_self _ _, rfl, rfl, ?_⟩, ⟨by rw [e6]; omega, by rw [e6]; omega, ?_⟩, ⟨rfl, ?_⟩, ?_⟩⟩
    · rw [e2]; simp; omega
    · rw [e1, e3]; simp; omega
    · rw [limE_self _ _ _ _ _ _ _ (by rw [e5, e4l]; omega), e4l]; omega
    · rw [e7, e8, e4l]; omega
    · refine ⟨0, v, _, none, _, rfl, ?_, ?_, .inr rfl⟩
      · rw [he]
        simp only [rd9, e7, e8, e4, e5]
        have hl : (es.take a ++ es.drop b).length = a + (es.length - b) := by simp; omega
        rw [List.take_append_of_le_length (by simp; omega), List.take_append_of_le_length (by simp; omega), List.take_append_of_le_length (by omega), List.take_of_length_le (by simp; omega), List.take_of_length_le (by omega)]
      · rw [he, e5]; simp; omega

theorem insF_lend (te : TE) (ty el sz byt v : Nat) (hsz : 0 < sz) (i : Int) (fr : Bool) (es vs es' : List (List AV)) (h0 : 0 ≤ i) (h1 : i ≤ (es.length : Int)) (hbig : es.length + vs.length ≤ 1000000) (hbyt : byt ≤ 1000) (he : es' = es.take i.toNat ++ vs ++ es.drop i.toNat) :
    insF te ty el sz byt v i sz fr es vs (LendR sz es') := by
  obtain ⟨a, rfl⟩ := Int.eq_ofNat_of_zero_le h0
  have ha : a ≤ es.length := by omega
  simp only [Int.toNat_natCast] at he
  have hroom : ∀ n, n ≤ 1000000 → n * byt ≤ 140737488355328 := fun n hn => by
    have := Nat.mul_le_mul hn hbyt
    omega
  have r2 : ri2 te el sz a es vs = ((es.length + vs.length : Nat) : Int) := by rw [ri2, IntWalk.i64_in _ (by omega)]; omega
  have r3 : ri3 te el sz a es vs = 0 := rfl
  have r4 : ri4 te el sz a es vs = a := by simp [ri4]
  have r5 : ri5 te el sz a es vs = ((es.length + vs.length - a : Nat) : Int) := by rw [ri5, r2, IntWalk.i64_in _ (by omega)]; omega
  have r6 : ri6 te el sz a es vs = List.replicate (es.length + vs.length - a) (zr te el) := by rw [ri6, r5]; simp
  have r6l : (ri6 te el sz a es vs).length = es.length + vs.length - a := by rw [r6]; simp
  have r8 : ri8 te el sz a es vs = es.length + vs.length := by rw [ri8, r4, r6l]; omega
  have r9 : ri9 te el sz a es vs = es.length + vs.length - a := by rw [ri9, r8]; simp; omega
  have r10 : ri10 te el sz a es vs = vs.length := by rw [ri10, r9]; omega
  have r13 : ri13 te el sz a es vs = ((a + vs.length : Nat) : Int) := by rw [ri13, IntWalk.i64_in _ (by omega)]; omega
  have r14 : ri14 te el sz a es vs = a + vs.length := by rw [ri14, r13]; simp; omega
  have r0 : ri0 te el sz a es vs = es.length - a := by simp [ri0]
  have r15 : ri15 te el sz a es vs = es.length - a := by rw [ri15, r8, r13]; simp; omega
  have r20 : ri20 te el sz a es vs = es.take a ++ List.replicate (es.length + vs.length - a) (zr te el) := by rw [ri20, r4, r6]
  have r20l : (ri20 te el sz a es vs).length = es.length + vs.length := by rw [r20]; simp; omega
  have r21 : ri21 te el sz a es vs = es.take a ++ vs ++ (ri20 te el sz a es vs).drop (a + vs.length) := by
    rw [ri21, r10]
    simp only [Int.toNat_natCast, Nat.zero_add]
    rw [show (ri20 te el sz a es vs).take a = es.take a by rw [r20, List.take_append_of_le_length (by simp; omega), List.take_of_length_le (by simp; omega)], List.take_length]
  have r21l : (ri21 te el sz a es vs).length = es.length + vs.length := by rw [r21]; simp [r20l]; omega
  have r22 : ri22 te el sz a es vs = es.drop a := by rw [ri22, r0]; simp only [Int.toNat_natCast, Nat.zero_add]; exact List.take_of_length_le (by simp)
  have r23 : ri23 te el sz a es vs = es.length - a := by rw [ri23, r22, r15]; simp
  have r24 : ri24 te el sz a es vs = es' := by
    rw [ri24, r14, r23, r22]
    have t1 : (ri21 te el sz a es vs).take (a + vs.length) = es.take a ++ vs := by
      rw [r21, List.take_append_of_le_length (by simp; omega), List.take_of_length_le (by simp; omega)]
    rw [t1, show (es.drop a).take (es.length - a) = es.drop a from List.take_of_length_le (by simp), List.drop_of_length_le (show (ri21 te el sz a es vs).length ≤ a + vs.length + (es.length - a) by rw [r21l]; omega), he]
    simp
  have r50 : ri50 te el sz a es vs = es ++ List.replicate vs.length (List.replicate sz .junk) := by
    rw [ri50, r2]
    congr 2
    omega
  have r50l : (ri50 te el sz a es vs).length = es.length + vs.length := by rw [r50]; simp
  have r51 : ri51 te el sz a es vs = es.length + vs.length := by rw [ri51, r2]; exact Int.toNat_natCast _
  have r52 : ri52 te el sz a es vs = es.length - a := by rw [ri52, r51, r13]; simp; omega
  have r53 : ri53 te el sz a es vs = es.length + vs.length - a := by rw [ri53, r51]; simp; omega
  have r54 : ri54 te el sz a es vs = (ri50 te el sz a es vs).drop a := by rw [ri54, r53]; simp only [Int.toNat_natCast, Nat.zero_add]; exact List.take_of_length_le (by rw [List.length_drop, r50l]; omega)
  have r55 : ri55 te el sz a es vs = es.length - a := by rw [ri55, r54, r52, List.length_drop, r50l]; omega
  have r56 : ri56 te el sz a es vs = (ri50 te el sz a es vs).take (a + vs.length) ++ es.drop a := by
    rw [ri56, r14, r55, r54, List.drop_of_length_le (show (ri50 te el sz a es vs).length ≤ a + vs.length + (es.length - a) by rw [r50l]; omega), List.append_nil]
    congr 1
    rw [r50, List.drop_append_of_le_length ha, List.take_append_of_le_length (by simp), List.take_of_length_le (by simp)]
  have r56l : (ri56 te el sz a es vs).length = es.length + vs.length := by rw [r56]; simp [r50l]; omega
  have r58 : ri58 te el sz a es vs = vs.length := by rw [ri58, r53]; omega
  have r59 : ri59 te el sz a es vs = es' := by
    rw [ri59, r58]
    simp only [Int.toNat_natCast, Nat.zero_add]
    have t1 : (ri56 te el sz a es vs).take a = es.take a := by
      rw [r56, List.take_append_of_le_length (by rw [List.length_take, r50l]; omega), List.take_take, r50, Nat.min_eq_left (by omega), List.take_append_of_le_length ha]
    have t2 : (ri56 te el sz a es vs).drop (a + vs.length) = es.drop a := by
      rw [r56, List.drop_append_of_le_length (by rw [List.length_take, r50l]; omega), List.drop_of_length_le (by rw [List.length_take]; omega), List.nil_append]
    rw [t1, t2, List.take_length, he]
  have hlen' : es'.length = es.length + vs.length := by rw [he]; simp; omega
  unfold insF
  refine ⟨⟨by omega, by omega, by omega⟩, ifB_both (fun hm => ?_) (fun hm => ifB_both (fun hi => ?_) (fun hi => ?_))⟩
  · have : vs = [] := by
      have := eq_of_beq hm
      exact List.eq_nil_of_length_eq_zero (by omega)
    subst this
    refine ⟨0, v, es.length, none, es, rfl, ?_, ?_, .inl rfl⟩
    · rw [he, List.take_length]; simp
    · rw [hlen']; simp
  · have : a = es.length := by have := eq_of_beq hi; omega
    subst this
    refine ⟨⟨fits_self _ _, rfl, rfl, hroom _ (by omega)⟩, 0, v + 1, _, none, _, rfl, ?_, ?_, .inl rfl⟩
    · simp only [ri1]
      rw [he, List.take_of_length_le (by simp)]
      simp
    · simp only [ri1]; rw [hlen']
  · refine ⟨⟨rfl, rfl⟩, fun C hC hC63 => ifB_both (fun hg => ?_) (fun hg => ?_)⟩
    · have hg : C < es.length + vs.length := by rw [not_leI] at hg; have := of_decide_eq_true hg; rw [r2] at this; omega
      refine .inl ⟨⟨by omega, by omega, by omega⟩, .inr ⟨⟨⟨by rw [r5]; omega, by rw [r5]; have := hroom (es.length + vs.length - a) (by omega); omega⟩, fits_self _ _, rfl, rfl, by rw [r4]; exact ha, by rw [r4, r6l]; omega, hroom _ (by rw [r4, r6l]; omega)⟩, ⟨by omega, by rw [r8]; omega, by omega⟩, ⟨fits_self _ _, rfl, by rw [r9, r20l]; simp; omega⟩, ⟨by rw [r13]; omega, by rw [r13, r8]; omega, by omega⟩, ⟨by omega, by omega, by omega⟩, ⟨⟨rfl, by rw [r0]; simp; omega⟩, fits_self _ _, rfl, by rw [r14, r15, r21l]; omega⟩, ?_⟩⟩
      exact ⟨1, 1, _, none, _, rfl, by rw [r8, r24, ← hlen', List.take_length], by rw [r8, hlen'], .inl rfl⟩
    · have hg : es.length + vs.length ≤ C := by rw [not_leI] at hg; have := of_decide_eq_false hg; rw [r2] at this; omega
      have hov : ∀ off len, ovOK [rty te ty (.sl sz fr vs), .osub 0 v off len] [.arr true v sz (some C) (ri50 te el sz a es vs)] := by
        intro off len
        cases sz with
        | zero => omega
        | succ sz => exact rfl
      refine .inr ⟨⟨rfl, rfl, by rw [r2]; omega, by rw [r2]; omega⟩, ⟨by rw [r13]; omega, by rw [r13, r51]; omega, by omega⟩, hov _ _, ⟨by rw [r13]; omega, by rw [r13, r51]; omega, by omega⟩, ⟨by omega, by rw [r51]; omega, by omega⟩, ⟨⟨rfl, by rw [r53, r50l]; simp; omega⟩, fits_self _ _, rfl, by rw [r14, r52, r50l]; omega⟩, ⟨by omega, by rw [r51]; omega, by omega⟩, ⟨fits_self _ _, rfl, by rw [r53, r56l]; simp; omega⟩, ?_⟩
      exact ⟨0, v, _, some C, _, rfl, by rw [r51, r59, ← hlen', List.take_length], by rw [r51, hlen'], .inl rfl⟩

end Go.Rf
end
/-
  LIBRARY FUNCTIONS, part 7: slices.overlaps, the model's own entry; slices.Delete and slices.Insert as contracts.
-/
section
set_option linter.unusedVariables false
set_option linter.unusedSimpArgs false
namespace Go.Rf

section
variable {P : Program} {w : World} {S : Nat → Prop} {ρ : Reg} {H : List Ent}

theorem run_overlaps_own (w : World) (tS tR e : TypeId) (ht : P.underlying tS = some (.slice e)) (size : Nat) (hz : ∀ w, (Go.sizeOf e).run P w = .ok size w)
    (a b : Addr) (la ca lb cb : Nat) (hne : a.block ≠ b.block) (tA tB : TypeId) (kA kB : Nat) (hsa : w.shape? a.block = some (tA, kA)) (hkA : kA ≠ 0) (hsb : w.shape? b.block = some (tB, kB)) (hkB : kB ≠ 0)
    (hfb : w.frozen? b = false) (hfe : w.frozen? { block := b.block, off := kB } = false) :
    (Extern.SlicesOverlaps.overlaps #[tS, tS] #[tR] #[.slice (some a) la ca, .slice (some b) lb cb]).run P w = .ok (.bool false) w := by
  have hnb : (a.block != b.block) = true := by simpa using hne
  have hnb' : (a.block == b.block) = false := by simpa using hne
  change Sem.run P (α := Value) (do
    let some t := (#[tS, tS] : Array TypeId)[0]? | stuck "slices.overlaps: no parameter types"
    let .slice elem ← underlying t | stuck "slices.overlaps: slice type expected"
    let size ← sizeOf elem
    match (some a : Option Addr), (some b : Option Addr) with
    | some a, some b =>
      if la = 0 ∨ lb = 0 ∨ size = 0 then pure (Value.bool false)
      else if a.block != b.block && (← frozen a) && (← frozen b) then unsupported .addressObserved
      else do
        if a.block != b.block then do
          noView a; noView b
          if ← mayBeOne a b then return Value.bool ((← choose (.extern "sameAddr.stringBytes" 2)) == 1)
        pure (Value.bool (a.block == b.block && a.off < b.off + lb * size && b.off < a.off + la * size))
    | _, _ => pure (Value.bool false)) w = _
  by_cases h0 : la = 0 ∨ lb = 0 ∨ size = 0
  · simp [run_underlying ht, hz, h0]
  · cases kB with
    | zero => exact absurd rfl hkB
    | succ kB =>
      cases kA with
      | zero => exact absurd rfl hkA
      | succ kA =>
      cases hfa : w.frozen? a <;> cases hfe' : w.frozen? { block := a.block, off := kA + 1 } <;>
        simp [run_underlying ht, hz, h0, hnb, hnb', frozen, noView, viewAt, mayBeOne, stringish, shape, Sem.run, hsa, hsb, hfa, hfb, hfe, hfe']
theorem run_overlaps_nil (w : World) (tS tR e : TypeId) (ht : P.underlying tS = some (.slice e)) (size : Nat) (hz : ∀ w, (Go.sizeOf e).run P w = .ok size w)
    (a b : Option Addr) (la ca lb cb : Nat) (h : a = none ∨ b = none ∨ la = 0 ∨ lb = 0) :
    (Extern.SlicesOverlaps.overlaps #[tS, tS] #[tR] #[.slice a la ca, .slice b lb cb]).run P w = .ok (.bool false) w := by
  change Sem.run P (α := Value) (do
    let some t := (#[tS, tS] : Array TypeId)[0]? | stuck "slices.overlaps: no parameter types"
    let .slice elem ← underlying t | stuck "slices.overlaps: slice type expected"
    let size ← sizeOf elem
    match a, b with
    | some a, some b =>
      if la = 0 ∨ lb = 0 ∨ size = 0 then pure (Value.bool false)
      else if a.block != b.block && (← frozen a) && (← frozen b) then unsupported .addressObserved
      else do
        if a.block != b.block then do
          noView a; noView b
          if ← mayBeOne a b then return Value.bool ((← choose (.extern "sameAddr.stringBytes" 2)) == 1)
        pure (Value.bool (a.block == b.block && a.off < b.off + lb * size && b.off < a.off + la * size))
    | _, _ => pure (Value.bool false)) w = _
  cases a with
  | none => simp [run_underlying ht, hz]
  | some a => cases b with
    | none => simp [run_underlying ht, hz]
    | some b =>
      have : la = 0 ∨ lb = 0 ∨ size = 0 := by
        rcases h with h | h | h | h
        · cases h
        · cases h
        · exact .inl h
        · exact .inr (.inl h)
      simp [run_underlying ht, hz, this]

theorem overlaps_sound {f : FuncId} {fn : Func} {tS tR e : TypeId} (hf : P.funcs[f]? = some fn) (hname : (fn.name == "runtime.NumGoroutine") = false) (hb : fn.body.isNone = true) (hn : Extern.findNext fn = none)
    (he : Extern.find fn = some (Extern.SlicesOverlaps.overlaps #[tS, tS] #[tR])) (ht : P.underlying tS = some (.slice e)) {size : Nat} (hz : ∀ w, (Go.sizeOf e).run P w = .ok size w) : GSound P f gOv := by
  rintro w S ρ H xs args Φ hm hargs ⟨hov, hΦ⟩
  have fin : (callFunc f args).run P w = .ok (.value (.bool false)) w → CallRuns P f args w (GPost w S ρ H Φ) := fun hr =>
    .inr ⟨.bool false, w, hr, .bool false, H, S, ρ, hΦ, hm, .bool _ _, Goes.refl w S ρ H (Nat.le_refl _)⟩
  refine fin ?_
  rw [run_callFunc_extern hf hname hb hn he]
  unfold ovOK at hov
  split at hov
  · rename_i sz fr es q ver off len
    obtain ⟨hs, hr⟩ := hargs
    have h0 : 0 < args.size := by rw [hs]; simp
    have h1 : 1 < args.size := by rw [hs]; simp
    have r0 := hr 0 _ args[0] rfl (Array.getElem?_eq_getElem h0)
    have r1 := hr 1 _ args[1] rfl (Array.getElem?_eq_getElem h1)
    have hargs' : args = #[args[0], args[1]] := by
      apply Array.ext
      · rw [hs]; rfl
      · intro i hi hi2
        have : i < 2 := hi2
        rcases i with _ | _ | i
        · rfl
        · rfl
        · omega
    rw [hargs']
    generalize args[0] = v0 at r0
    generalize args[1] = v1 at r1
    cases r0 with
    | sl _ _ _ _ A la ca cell hl hc hx hfr hsz hcell hA hrr =>
      cases r1 with
      | osub _ _ _ _ _ B cb hp hver hcp hB hrb =>
        by_cases hz0 : A = none ∨ B = none ∨ la = 0 ∨ len = 0
        · rw [run_overlaps_nil w tS tR e ht size hz A B la ca len cb hz0]; rfl
        · have hA' : ∃ a, A = some a := by cases A with | none => exact absurd (.inl rfl) hz0 | some a => exact ⟨a, rfl⟩
          have hB' : ∃ b, B = some b := by cases B with | none => exact absurd (.inr (.inl rfl)) hz0 | some b => exact ⟨b, rfl⟩
          obtain ⟨a, rfl⟩ := hA'
          obtain ⟨b, rfl⟩ := hB'
          have hla : 0 < la := by rcases Nat.eq_zero_or_pos la with h | h; exact absurd (.inr (.inr (.inl h))) hz0; exact h
          have hlb : 0 < len := by rcases Nat.eq_zero_or_pos len with h | h; exact absurd (.inr (.inr (.inr h))) hz0; exact h
          obtain ⟨a', ha', haS, hac, _⟩ := hcell 0 0 hla (Nat.succ_pos _)
          cases ha'
          cases hq : H.getD q .none with
          | none => rw [hq] at hov; cases hov
          | var => rw [hq] at hov; cases hov
          | arr cl v qsz cap qes =>
            rw [hq] at hov
            have hv : v = ver := hov
            subst hv
            have hget := getD_some hq (by simp)
            obtain ⟨e1, e2, e3, e4, e5, e6, e7, e8, e9⟩ := hm.ent q _ hget
            obtain ⟨k1, k2⟩ := hrb e1.symm
            have hcap : 0 < cb := by omega
            have hb' := k2 hcap
            have hqc : 0 < (ρ q).cap := by omega
            obtain ⟨cs, ty, c1, c2, c3, c4⟩ := e9 hqc
            have hbe : b = ⟨(ρ q).blk, off * (ρ q).sz, none⟩ := Option.some.inj hb'
            have hne : a.block ≠ b.block := by
              intro h
              exact (hm.stab _ haS).2 ⟨q, _, hget, hqc, by rw [h, hbe]⟩
            obtain ⟨tA, kA, hsa, hlt, _⟩ := World.shape?_of_cell? hac
            have hab : (a.add (0 * (sz + 1) + 0)).block = a.block := by unfold Addr.add; split <;> rfl
            rw [hab] at hsa
            have hfz : ∀ o, w.frozen? ⟨(ρ q).blk, o, none⟩ = false := by
              intro o
              simp [World.frozen?, c1]
            rw [run_overlaps_own w tS tR e ht size hz a b la ca len cb hne tA ty kA cs.size hsa (by omega) (by rw [hbe]; simp [World.shape?, c1]) (by rw [c2]; exact Nat.ne_of_gt (Nat.mul_pos hqc e4)) (by rw [hbe]; exact hfz _) (by rw [hbe]; exact hfz _)]
            rfl
  · cases hov

theorem none_sound : Sound P (XE.env fun _ => none) := by intro f sp h; cases h
theorem env_of {X : XE} {f : FuncId} {ox : Option XS} {sp : Spec} (h : (match ox with | some x => some x.spec | none => none) = some sp) (hx : X f = ox) : X.env f = some sp := by
  subst hx; exact h
theorem ovEnv_sound {k : Nat} (h : GSound P k gOv) : Sound P (ovEnv k) := by
  intro f sp hs
  unfold ovEnv at hs
  cases hb : Nat.beq f k with
  | false => rw [hb] at hs; cases hs
  | true =>
    rw [hb] at hs
    cases hs
    have := Nat.eq_of_beq_eq_true hb
    subst this
    exact h

/-- slices.Insert, as a contract. -/
theorem insert_sound {te : TE} (hte : TEok P te) (hmix : P.follows .mixedOrders = true) {f k : FuncId} {fn : Func} (hf : IsFun P f fn) (hov : GSound P k gOv) {ty el sz byt : Nat} (hsz : 0 < sz) (hbyt : byt ≤ 1000)
    (hv : ∀ (v : Nat) (i : Int) (z : Nat) (fr : Bool) (es vs : List (List AV)) (Φ : AV → List Ent → Prop), wFun te (ovEnv k) fn [.own 0 v es.length, .int .i64 i, .sl z fr vs] [.arr true v sz none es] Φ = insF te ty el sz byt v i z fr es vs Φ) :
    SpecSound P f (XS.spec (.gen (xLend (xIns sz byt) sz))) := by
  refine lend_sound (fun_sound hte (ovEnv_sound hov) hmix hf) ?_
  intro v es es' rest hF
  unfold xIns at hF
  split at hF
  · rename_i i z fr vs
    obtain ⟨h1, h2⟩ := whenB_some hF
    obtain ⟨h3, h4⟩ := andB_true h1
    obtain ⟨h5, h6⟩ := andB_true h4
    have hz := Nat.eq_of_beq_eq_true h5
    subst hz
    have hi := of_decide_eq_true h3
    have hn := of_decide_eq_true h6
    simp only [Option.some.injEq] at h2
    rw [hv]
    exact insF_lend te ty el z byt v hsz i fr es vs es' hi.1 hi.2 hn.1 hbyt h2.symm
  · cases hF
theorem delete_sound {te : TE} (hte : TEok P te) (hmix : P.follows .mixedOrders = true) {f : FuncId} {fn : Func} (hf : IsFun P f fn) {ty el sz byt : Nat}
    (hv : ∀ (v : Nat) (i j : Int) (es : List (List AV)) (Φ : AV → List Ent → Prop), wFun te (fun _ => none) fn [.own 0 v es.length, .int .i64 i, .int .i64 j] [.arr true v sz none es] Φ = delF te ty el sz byt v i j es Φ) :
    SpecSound P f (XS.spec (.gen (xLend xDel sz))) := by
  refine lend_sound (fun_sound hte (Γ := fun _ => none) (by intro f sp h; cases h) hmix hf) ?_
  intro v es es' rest hF
  unfold xDel at hF
  split at hF
  · rename_i i j
    obtain ⟨h1, h2⟩ := whenB_some hF
    have hi := of_decide_eq_true h1
    simp only [Option.some.injEq] at h2
    rw [hv]
    exact delF_lend te ty el sz byt v i j es es' hi.1 hi.2.1 hi.2.2 h2.symm
  · cases hF

end
end Go.Rf
end
/-
  LIBRARY FUNCTIONS, part 8: how often a byte is in a string, and where: the model's own entries.
-/
section
set_option linter.unusedVariables false
set_option linter.unusedSimpArgs false
namespace Go.Rf

def xCount : List AV → Option (AV × Ent)
  | [.str s, .int .u8 c] => some (.int .i64 ((Go.Lib.countByte s.data.toList c.toNat.toUInt8 : Nat) : Int), .none)
  | _ => none
def xIndexB : List AV → Option (AV × Ent)
  | [.str s, .int .u8 c] => some (.int .i64 (Go.Lib.indexByte s.data.toList c.toNat.toUInt8), .none)
  | _ => none

section
variable {P : Program}

theorem extern_dat {f : FuncId} {g : List AV → Option (AV × Ent)} (h : ∀ (w : World) (S : Nat → Prop) (ρ : Reg) (xs : List AV) (args : Array Value) (x : AV) (e : Ent), ArgsRd w S ρ 0 xs args → g xs = some (x, e) → e = .none ∧ ∃ v, (callFunc f args).run P w = .ok (.value v) w ∧ Rd w S ρ 0 x v) :
    SpecSound P f (XS.spec (.dat g)) := by
  rintro w S ρ xs args Φ hS hargs ⟨x, e, hx, hΦ⟩
  have hno : ∀ (ρ : Reg) k, ¬ Own ρ [] k := by rintro ρ k ⟨p, e, he, _⟩; simp at he
  have hm : RH w S ρ [] := ⟨by simp, by simp, fun k hk => ⟨hS k hk, hno ρ k⟩⟩
  obtain ⟨rfl, v, hr, hv⟩ := h w S ρ xs args x e hargs hx
  exact .inr ⟨v, w, hr, x, .none, S, ρ, hΦ, trivial, hm, hv, Goes.refl w S ρ [] (Nat.zero_le _)⟩

theorem two_args {w : World} {S : Nat → Prop} {ρ : Reg} {n : Nat} {s : ByteArray} {c : Int} {args : Array Value} (h : ArgsRd w S ρ n [.str s, .int .u8 c] args) : args = #[.string s, .int .u8 c] := by
  obtain ⟨hs, hr⟩ := h
  have hs : args.size = 2 := hs
  have h0 : 0 < args.size := by rw [hs]; decide
  have h1 : 1 < args.size := by rw [hs]; decide
  have r0 := hr 0 _ args[0] rfl (Array.getElem?_eq_getElem h0)
  have r1 := hr 1 _ args[1] rfl (Array.getElem?_eq_getElem h1)
  apply Array.ext
  · rw [hs]; rfl
  · intro i hi hi2
    have : i < 2 := hi2
    rcases i with _ | _ | i
    · generalize hg : args[0] = v0 at r0
      cases r0
      rfl
    · generalize hg : args[1] = v1 at r1
      cases r1
      rfl
    · omega

theorem count_sound {f : FuncId} {fn : Func} (hf : P.funcs[f]? = some fn) (hname : (fn.name == "runtime.NumGoroutine") = false) (hb : fn.body.isNone = true) (hn : Extern.findNext fn = none) (he : Extern.find fn = some Extern.BytealgCount.count) :
    SpecSound P f (XS.spec (.dat xCount)) := by
  refine extern_dat ?_
  intro w S ρ xs args x e hargs hx
  unfold xCount at hx
  split at hx
  · rename_i s c
    simp only [Option.some.injEq, Prod.mk.injEq] at hx
    obtain ⟨rfl, rfl⟩ := hx
    refine ⟨rfl, _, ?_, .int _ _ _⟩
    rw [two_args hargs, run_callFunc_extern hf hname hb hn he, Go.Lib.run_countString]
    rfl
  · cases hx
theorem indexB_sound {f : FuncId} {fn : Func} (hf : P.funcs[f]? = some fn) (hname : (fn.name == "runtime.NumGoroutine") = false) (hb : fn.body.isNone = true) (hn : Extern.findNext fn = none) (he : Extern.find fn = some Extern.BytealgIndexByte.indexByte) :
    SpecSound P f (XS.spec (.dat xIndexB)) := by
  refine extern_dat ?_
  intro w S ρ xs args x e hargs hx
  unfold xIndexB at hx
  split at hx
  · rename_i s c
    simp only [Option.some.injEq, Prod.mk.injEq] at hx
    obtain ⟨rfl, rfl⟩ := hx
    refine ⟨rfl, _, ?_, .int _ _ _⟩
    rw [two_args hargs, run_callFunc_extern hf hname hb hn he, Go.Lib.run_indexByteString]
    rfl
  · cases hx

end
end Go.Rf
end
/-
  RUNNING, part 6: from a run to what the statements ask.
-/
section
set_option linter.unusedVariables false
set_option linter.unusedSimpArgs false
namespace Go.Rf

/-- All that was there is as it was. -/
structure Old (w w' : World) : Prop where
  os : w'.os = w.os
  output : w'.output = w.output
  size : w.heap.size ≤ w'.heap.size
  keep : ∀ k, k < w.heap.size → w'.heap[k]? = w.heap[k]?

theorem Old.kept {w w' : World} (h : Old w w') (may : MemPlace → Prop) : w.keptBut w' may := by
  refine ⟨h.os, h.output, fun i hi => ?_⟩
  rw [h.keep i hi]
  cases hx : w.heap[i]? with
  | none => rfl
  | some o =>
    cases o with
    | cells c t fr => exact ⟨rfl, rfl, rfl, fun _ _ => rfl⟩
    | map es clock => exact .inr ⟨rfl, rfl⟩
    | _ => rfl
theorem Old.frozen {w w' : World} (h : Old w w') (a : Addr) (ha : a.block < w.heap.size) : w'.frozen? a = w.frozen? a := World.frozen?_of_block (h.keep a.block ha)

section
variable {P : Program}

theorem calls_of_runs {f : FuncId} {fn : Func} (hf : IsFun P f fn) {args : Array Value} {w : World} {R : Value → World → Prop} (h : CallRuns P f args w R) : Calls P f args w fun e w' => match e with | .returned v => R v w' | _ => False := by
  rcases h with ⟨_, h⟩ | ⟨v, w', h, _⟩
  · exact h
  · rw [run_callFunc hf args w] at h
    cases h

/-- A law whose arguments lead nowhere: it runs to 'true'. -/
theorem law_calls {f : FuncId} {fn : Func} (hf : IsFun P f fn) {g : List AV → Option (AV × Ent)} (hg : SpecSound P f (XS.spec (.dat g))) {xs : List AV} {e : Ent} (hx : g xs = some (.bool true, e)) {args : Array Value} {w : World}
    (hargs : ArgsRd w (fun _ => False) (fun _ => ⟨0, 0, 0, 0⟩) 0 xs args) : Calls P f args w fun e w' => e = .returned (.bool true) ∧ Old w w' := by
  refine Calls.mono (calls_of_runs hf (hg w (fun _ => False) (fun _ => ⟨0, 0, 0, 0⟩) xs args (fun r en => r = .bool true ∧ en = e) (fun k hk => hk.elim) hargs ⟨_, _, hx, rfl, rfl⟩)) ?_
  intro ex w' hq
  cases ex with
  | returned v =>
    obtain ⟨r, en, S', ρ', ⟨rfl, _⟩, h2, h3, h4, h5⟩ := hq
    cases h4
    have hno : ∀ k, ¬ Own ρ' [] k := by rintro k ⟨p, e, he, _⟩; simp at he
    exact ⟨rfl, h5.os, h5.output, h5.size, fun k hk => h5.keep k hk (hno k)⟩
  | _ => exact hq.elim

/-- What is known of a function without arguments: it is true. -/
def xTrue : List AV → Option (AV × Ent)
  | [] => some (.bool true, .none)
  | _ => none
theorem memo_true {f : FuncId} {g : List AV → Option (AV × Ent)} (hg : SpecSound P f (XS.spec (.dat g))) (hx : g [] = some (.bool true, .none)) : SpecSound P f (XS.spec (.dat xTrue)) := by
  rintro w S ρ xs args Φ hS hargs ⟨x, e, h, hΦ⟩
  unfold xTrue at h
  split at h
  · simp only [Option.some.injEq, Prod.mk.injEq] at h
    obtain ⟨rfl, rfl⟩ := h
    exact hg w S ρ [] args Φ hS hargs ⟨_, _, hx, hΦ⟩
  · cases h
def oneB (x : Option XS) (y : Option XS) : Bool → Option XS
  | true => x
  | false => y
/-- A table with one entry anew. -/
def withOne (k : FuncId) (s : XS) (X : XE) : XE := fun f => oneB (some s) (X f) (Nat.beq f k)
theorem withOne_sound {k : FuncId} {s : XS} {X : XE} (hs : SpecSound P k s.spec) (hX : Sound P X.env) : Sound P (withOne k s X).env := by
  intro f sp h
  unfold XE.env at h
  generalize hx : withOne k s X f = ox at h
  unfold withOne at hx
  cases hb : Nat.beq f k with
  | false => rw [hb] at hx; exact hX _ _ (env_of h hx)
  | true =>
    rw [hb] at hx
    subst hx
    cases h
    have := Nat.eq_of_beq_eq_true hb
    subst this
    exact hs

theorem args_one_int {w : World} {S : Nat → Prop} {ρ : Reg} {k : IntKind} {n : Int} : ArgsRd w S ρ 0 [.int k n] #[.int k n] := by
  refine ⟨rfl, fun i x v hx hv => ?_⟩
  cases i with
  | zero => simp at hx hv; subst hx; subst hv; exact .int _ _ _
  | succ i => simp at hx

open ChangeShapes ChangeAt in
theorem post_of_old {H : Type} {enc : TypeId × Value → H} {f : Func} {s : ChangeSpec} {apart fresh handsOn again : Bool} {W W' : World} {args : Array Value} {v : Value} {ds gs : List (DataW H)} {before pa pv : List MemPlace}
    (hW : DataW.Whole enc P f.params.toList s.vars apart W args.toList ds gs before)
    (hres : ∀ (b : Nat) (sp : Nat → Bool) (hd : Bool), DataW.TrodAll enc P W' b sp hd f.resultTypes.toList (v.resultList f.resultTypes.size) (s.fn H (ds ++ gs)).results [])
    (hargs : ∀ sp : Nat → Bool, (∀ p ∈ before, sp p.block = true) → DataW.TrodAll enc P W' 0 sp true f.params.toList args.toList (s.fn H (ds ++ gs)).args pa)
    (hvars : ∀ sp : Nat → Bool, (∀ p ∈ before, sp p.block = true) → DataW.TrodVars enc P W' sp s.vars (s.fn H (ds ++ gs)).vars pv)
    (hps : before = pa ++ pv) (ho : Old W W')
    (hok : ∀ (j : Nat) (t : TypeId) (r : Value), f.resultTypes[j]? = some t → (v.resultList f.resultTypes.size)[j]? = some r → Value.okWide P W' .any 0 t r) :
    s.post enc P f apart fresh handsOn again W args v W' := by
  have hlt : ∀ p ∈ before, p.block < W.heap.size := fun p hp => hW.lt p hp
  have hold : ∀ p ∈ before, (fun b => decide (b < W.heap.size)) p.block = true := fun p hp => by simpa using hlt p hp
  refine ⟨ds, gs, before, [], pa, pv, hW, hres _ _ _, hargs _ hold, hvars _ hold, World.keptBut_mono (fun p hp => ⟨hp, ?_⟩) (ho.kept _), fun _ => ?_⟩
  · rw [hps, List.mem_append] at hp
    exact Or.inr hp
  · obtain ⟨_, _, _, _, _, hz, hn⟩ := hW
    refine ⟨hok, _, _, ([] ++ pa) ++ pv, ⟨[] ++ pa, pv, trodAll_append (hargs _ (fun _ _ => rfl)) (hres _ _ _), hvars _ (fun _ _ => rfl), rfl, ?_, ?_⟩, ?_⟩
    · intro b off hp
      have hp' : MemPlace.cell b off ∈ before := by rw [hps]; simpa using hp
      rw [ho.frozen _ (hlt _ hp')]
      exact hz b off hp'
    · intro ha
      have := hn ha
      rw [hps] at this
      simpa using this
    · intro p hp _
      rw [hps]
      simpa using hp

end
end Go.Rf
end
/-
  RUNNING, part 7: what a function gives at known arguments, kept.
-/
section
set_option linter.unusedVariables false
set_option linter.unusedSimpArgs false
namespace Go.Rf

def eqBytes : List UInt8 → List UInt8 → Bool
  | [], [] => true
  | a :: l, b :: m => andB (Nat.beq a.toNat b.toNat) (eqBytes l m)
  | _, _ => false
def eqI : Int → Int → Bool
  | .ofNat m, .ofNat n => Nat.beq m n
  | .negSucc m, .negSucc n => Nat.beq m n
  | _, _ => false
def eqLs (f : AV → AV → Bool) : List AV → List AV → Bool
  | [], [] => true
  | a :: l, b :: m => andB (f a b) (eqLs f l m)
  | _, _ => false
def eqRs (f : AV → AV → Bool) : List (List AV) → List (List AV) → Bool
  | [], [] => true
  | a :: l, b :: m => andB (eqLs f a b) (eqRs f l m)
  | _, _ => false
def eqAV : Nat → AV → AV → Bool
  | 0, _, _ => false
  | _ + 1, .int k a, .int l b => andB (eqb (kn k) (kn l)) (eqI a b)
  | _ + 1, .bool true, .bool true => true
  | _ + 1, .bool false, .bool false => true
  | _ + 1, .str a, .str b => eqBytes a.data.toList b.data.toList
  | n + 1, .agg cs, .agg ds => eqLs (eqAV n) cs ds
  | n + 1, .sl s false es, .sl t false fs => andB (Nat.beq s t) (eqRs (eqAV n) es fs)
  | _, _, _ => false

theorem eqBytes_eq : ∀ {l m : List UInt8}, eqBytes l m = true → l = m
  | [], [], _ => rfl
  | [], _ :: _, h => by cases h
  | _ :: _, [], h => by cases h
  | a :: l, b :: m, h => by
    obtain ⟨h1, h2⟩ := andB_true h
    have h3 : a.toNat = b.toNat := Nat.eq_of_beq_eq_true h1
    rw [UInt8.toNat_inj.1 h3, eqBytes_eq h2]
theorem eqI_eq {a b : Int} (h : eqI a b = true) : a = b := by
  cases a <;> cases b <;> simp only [eqI, Bool.false_eq_true] at h
  · exact congrArg Int.ofNat (Nat.eq_of_beq_eq_true h)
  · exact congrArg Int.negSucc (Nat.eq_of_beq_eq_true h)
theorem eqLs_eq {f : AV → AV → Bool} (hf : ∀ a b, f a b = true → a = b) : ∀ {l m : List AV}, eqLs f l m = true → l = m
  | [], [], _ => rfl
  | [], _ :: _, h => by cases h
  | _ :: _, [], h => by cases h
  | a :: l, b :: m, h => by
    obtain ⟨h1, h2⟩ := andB_true h
    rw [hf a b h1, eqLs_eq hf h2]
theorem eqRs_eq {f : AV → AV → Bool} (hf : ∀ a b, f a b = true → a = b) : ∀ {l m : List (List AV)}, eqRs f l m = true → l = m
  | [], [], _ => rfl
  | [], _ :: _, h => by cases h
  | _ :: _, [], h => by cases h
  | a :: l, b :: m, h => by
    obtain ⟨h1, h2⟩ := andB_true h
    rw [eqLs_eq hf h1, eqRs_eq hf h2]
theorem eqAV_eq : ∀ (n : Nat) (a b : AV), eqAV n a b = true → a = b
  | 0, a, b, h => by simp [eqAV] at h
  | n + 1, a, b, h => by
    have ih := eqAV_eq n
    unfold eqAV at h
    split at h
    · cases h
    · obtain ⟨h1, h2⟩ := andB_true h
      rw [kn_eq h1, eqI_eq h2]
    · rfl
    · rfl
    · rename_i s t
      have h1 := eqBytes_eq h
      have hb : ∀ a b : ByteArray, a.data.toList = b.data.toList → a = b := by
        rintro ⟨⟨x⟩⟩ ⟨⟨y⟩⟩ h
        have h2 : x = y := h
        rw [h2]
      first
        | rw [hb _ _ h1]
        | exact congrArg AV.str (hb _ _ h1)
    · rename_i heq
      cases heq
      rw [eqLs_eq ih h]
    · rename_i heq
      cases heq
      obtain ⟨h1, h2⟩ := andB_true h
      rw [Nat.eq_of_beq_eq_true h1, eqRs_eq ih h2]
    · cases h

/-- A function at known arguments. -/
def memo (as : List AV) (r : AV) (xs : List AV) : Option (AV × Ent) := whenB (eqLs (eqAV 20) xs as) (some (r, .none))
theorem memo_sound {P : Program} {f : FuncId} {g : List AV → Option (AV × Ent)} (hg : SpecSound P f (XS.spec (.dat g))) {as : List AV} {r : AV} (hx : g as = some (r, .none)) : SpecSound P f (XS.spec (.dat (memo as r))) := by
  rintro w S ρ xs args Φ hS hargs ⟨x, e, h, hΦ⟩
  unfold memo at h
  obtain ⟨h1, h2⟩ := whenB_some h
  have := eqLs_eq (eqAV_eq 20) h1
  subst this
  simp only [Option.some.injEq, Prod.mk.injEq] at h2
  obtain ⟨rfl, rfl⟩ := h2
  exact hg w S ρ _ args Φ hS hargs ⟨_, _, hx, hΦ⟩

end Go.Rf
end
/-
  RUNNING, part 8: arguments that lead into memory: what is read of them, told.
-/
section
set_option linter.unusedVariables false
set_option linter.unusedSimpArgs false
namespace Go.Rf

section
variable {H : Type} {enc : TypeId × Value → H} {P : Program} {w : World} {base : Nat} {spare : Nat → Bool} {held : Bool} {S : Nat → Prop} {ρ : Reg}

theorem block_add (a : Addr) (i : Nat) : (a.add i).block = a.block := by unfold Addr.add; split <;> rfl
theorem lt_of_cell {a : Addr} {v : Value} (h : w.cell? a = some v) : a.block < w.heap.size := by
  unfold World.cell? at h
  cases hb : w.heap[a.block]? with
  | none => rw [hb] at h; cases h
  | some o => exact (Array.getElem?_eq_some_iff.1 hb).1

/-- A slice of one-cell elements. -/
theorem rd_slice1 {t e : TypeId} {fuel n : Nat} {v : Value} {x : DataW H × List MemPlace} (ht : P.underlying t = some (.slice e)) (hc : P.cellsOf e = 1) (h : DataW.trod enc P w base spare held fuel t [v] = some x)
    (hS : ∀ k, k < w.heap.size → S k) {Q : AV → Prop} (good : ∀ V D m, DataW.trod enc P w base spare held m e [V] = some D → ∃ a, Q a ∧ V.oneCell' = true ∧ Rd w S ρ 0 a V) :
    v.oneCell' = true ∧ ∃ es, (∀ e ∈ es, ∃ a, e = [a] ∧ Q a) ∧ Rd w S ρ n (.sl 1 false es) v := by
  rcases Deep.open_slice1 ht hc h with ⟨h1, h2⟩ | ⟨a, len, cap, m, k, V, D, Pl, h1, hb, hl, hm, hmm, hx, hall⟩
  · simp only [List.cons.injEq, and_true] at h1
    subst h1
    exact ⟨rfl, [], by simp, .sl _ 1 false [] none 0 0 (fun _ _ => default) rfl (Nat.le_refl _) (Nat.zero_le _) (by simp) (by simp) (by intro i k hi; omega) (by intro h; omega) (by simp)⟩
  · simp only [List.cons.injEq, and_true] at h1
    subst h1
    have hlm : len ≤ m := by rw [hmm]; split <;> omega
    have hch : ∀ i, ∃ a, i < len → Q a ∧ (V i).oneCell' = true ∧ Rd w S ρ 0 a (V i) := by
      intro i
      by_cases hi : i < len
      · obtain ⟨c1, c2⟩ := hall i (by omega)
        obtain ⟨a, k1, k2, k3⟩ := good (V i) _ _ c2
        exact ⟨a, fun _ => ⟨k1, k2, k3⟩⟩
      · exact ⟨.junk, fun h => absurd h hi⟩
    obtain ⟨f, hf⟩ := Classical.axiomOfChoice hch
    refine ⟨rfl, (List.range len).map (fun i => [f i]), ?_, ?_⟩
    · intro e he
      obtain ⟨i, hi, rfl⟩ := List.mem_map.1 he
      exact ⟨f i, rfl, (hf i (List.mem_range.1 hi)).1⟩
    · refine .sl _ 1 false _ (some a) len cap (fun i _ => V i) (by simp) hl hm (by simp) (by simp) ?_ (fun _ => rfl) ?_
      · intro i k hi hk
        have hk0 : k = 0 := by omega
        subst hk0
        obtain ⟨c1, c2⟩ := hall i (by omega)
        have hblk := lt_of_cell c1
        rw [block_add] at hblk
        exact ⟨a, rfl, hS _ hblk, by simpa using c1, (hf i hi).2.1⟩
      · intro i k e b he hb'
        have hi : i < len := by
          have := (List.getElem?_eq_some_iff.1 he).1
          simpa using this
        rw [List.getElem?_map, List.getElem?_range hi] at he
        simp only [Option.map_some, Option.some.injEq] at he
        subst he
        cases k with
        | zero => simp at hb'; subst hb'; exact (hf i hi).2.2
        | succ k => simp at hb'

theorem good_u8 {e : TypeId} (he : P.underlying e = some (.int .u8)) (V : Value) (D : DataW H × List MemPlace) (m : Nat) (h : DataW.trod enc P w base spare held m e [V] = some D) : ∃ a, (∃ x : Int, a = .int .u8 x ∧ 0 ≤ x ∧ x < 256) ∧ V.oneCell' = true ∧ Rd w S ρ 0 a V := by
  obtain ⟨n, h1, h2, h3⟩ := DataW.trod_int he h
  simp only [List.cons.injEq, and_true] at h1
  subst h1
  have hw : 0 ≤ n ∧ n ≤ 255 := by simpa [Lit.wf, IntKind.min, IntKind.max, IntKind.signed, IntKind.bits] using h3
  exact ⟨_, ⟨n, rfl, by omega, by omega⟩, rfl, .int _ _ _⟩
theorem good_str {e : TypeId} (he : P.underlying e = some .string) (V : Value) (D : DataW H × List MemPlace) (m : Nat) (h : DataW.trod enc P w base spare held m e [V] = some D) : ∃ a, (∃ s, a = .str s) ∧ V.oneCell' = true ∧ Rd w S ρ 0 a V := by
  obtain ⟨s, h1, h2, h3⟩ := DataW.trod_string he h
  simp only [List.cons.injEq, and_true] at h1
  subst h1
  exact ⟨_, ⟨s, rfl⟩, rfl, .str _ _⟩
theorem bytes_of {es : List (List AV)} (h : ∀ e ∈ es, ∃ a, e = [a] ∧ ∃ x : Int, a = .int .u8 x ∧ 0 ≤ x ∧ x < 256) : ∀ e ∈ es, isByte e := by
  intro e he
  obtain ⟨a, rfl, x, rfl, h1, h2⟩ := h e he
  show isByteB [.int .u8 x] = true
  simp [isByteB, h1, h2]

/-- What is read of an argument is read again, where all that was there is as it was. -/
theorem stays {t : TypeId} (hl : laidOutB P = true) (hr : P.readableRec t = true) (hrow : t < P.types.size) {w' : World} {sp' : Nat → Bool} {v : Value} {d : DataW H} {ps : List MemPlace}
    (h : DataW.Trod enc P w base (fun _ => true) true t v d ps) (ho : Old w w') (hlt : ∀ p ∈ ps, p.block < w.heap.size) (hs : ∀ p ∈ ps, sp' p.block = true) : DataW.Trod enc P w' base sp' true t v d ps := by
  refine WideElems.Trod_stays hl hr hrow h (fun p hp => ?_) hs
  have hk := ho.keep p.block (hlt p hp)
  cases p with
  | cell b off => exact World.cell?_of_block hk
  | map b => exact hk

/-- A law with arguments of any kind. -/
theorem law_calls_any {f : FuncId} {fn : Func} (hf : IsFun P f fn) {C : List AV → Prop} (hg : SpecSound P f (.fn C (fun _ => .bool true))) {xs : List AV} (hC : C xs) {args : Array Value}
    (hargs : ArgsRd w (fun k => k < w.heap.size) (fun _ => ⟨0, 0, 0, 0⟩) 0 xs args) : Calls P f args w fun e w' => e = .returned (.bool true) ∧ Old w w' := by
  refine Calls.mono (calls_of_runs hf (hg w (fun k => k < w.heap.size) (fun _ => ⟨0, 0, 0, 0⟩) xs args (fun r en => r = .bool true) (fun k hk => hk) hargs ⟨hC, rfl⟩)) ?_
  intro ex w' hq
  cases ex with
  | returned v =>
    obtain ⟨r, en, S', ρ', rfl, h2, h3, h4, h5⟩ := hq
    cases h4
    have hno : ∀ k, ¬ Own ρ' [] k := by rintro k ⟨p, e, he, _⟩; simp at he
    exact ⟨rfl, h5.os, h5.output, h5.size, fun k hk => h5.keep k hk (hno k)⟩
  | _ => exact hq.elim

end
end Go.Rf
end
/-
  THE SYMBOLIC EXECUTOR: loops at whose head the memory may be told otherwise: an empty row becomes an array of the call's own, a part that is all of its array becomes the array, arrays of the call's own become data.
-/
section
set_option linter.unusedVariables false
set_option linter.unusedSimpArgs false
namespace Go.Rf

/-- The same machine, told otherwise. -/
def ReT (fl : Nat) (s s' : St) : Prop := ∀ (w : World) (S : Nat → Prop) (ρ : Reg) (a : Act), RS w S ρ s a → fl ≤ s.H.length → ∃ S' ρ', RS w S' ρ' s' a ∧ Goes w S ρ s.H w S' ρ' s'.H fl

theorem ReT.refl (fl : Nat) (s : St) : ReT fl s s := fun w S ρ a h hf => ⟨S, ρ, h, Goes.refl w S ρ s.H hf⟩
theorem ReT.trans {fl : Nat} {s t u : St} (h : ReT fl s t) (k : ReT fl t u) : ReT fl s u := by
  intro w S ρ a hs hf
  obtain ⟨S1, ρ1, h1, g1⟩ := h w S ρ a hs hf
  obtain ⟨S2, ρ2, h2, g2⟩ := k w S1 ρ1 a h1 g1.len
  exact ⟨S2, ρ2, h2, g1.trans g2⟩

theorem reT_cut {fl : Nat} {s : St} (keep : List Bool) (nh : Nat) (hc : cutOK keep nh s = true) (hf : fl ≤ nh) : ReT fl s (cut keep nh s) := by
  intro w S ρ a hs hl
  obtain ⟨c1, c2⟩ := hs.cut (w0 := w) (S0 := S) (ρ0 := ρ) (H0 := s.H) (fl := fl) hc
  exact ⟨S, ρ, c1, c2 (Goes.refl w S ρ s.H hl) hf⟩

/-- An empty row that may be appended to becomes an array of the call's own. -/
theorem reT_adopt {fl : Nat} {T : List AV} {H : List Ent} (i z sz : Nat) (hi : T[i]? = some (.sl z true [])) (hz : 0 < sz) :
    ReT fl ⟨T, H⟩ ⟨T.set i (.own H.length 1 0), H ++ [.arr true 1 sz none []]⟩ := by
  intro w S ρ a hs hl
  have hset : ∀ (H : List Ent) (e : Ent), setH H H.length e = H ++ [e] := by
    intro H e
    induction H with
    | nil => rfl
    | cons x H ih => exact congrArg (x :: ·) ih
  let ρ' : Reg := fun p => if p = H.length then ⟨0, 0, 1, sz⟩ else ρ p
  have hρ' : ρ' H.length = ⟨0, 0, 1, sz⟩ := if_pos rfl
  have hch := hs.mem.change (w' := w) (S' := S) (ρ' := ρ') (p := H.length) (e' := .arr true 1 sz none []) (Nat.le_refl _)
    (fun q hq => if_neg hq) (fun h => absurd h (Nat.lt_irrefl _)) rfl rfl rfl (Nat.le_refl _) (fun _ _ _ => rfl)
    (fun h => by simp only [live, hρ'] at h; omega) (fun _ h => h) (fun _ h => .inl h)
    (by simp only [EntRd, hρ']
        refine ⟨trivial, by omega, trivial, hz, by simp, by decide, by simp, by simp, fun h => absurd h (by omega)⟩)
  rw [hset] at hch
  obtain ⟨h1, h2⟩ := hch
  refine ⟨S, ρ', ⟨by rw [hs.size]; simp, ?_, h1, hs.defers⟩, h2.mono hl⟩
  intro j x v hx hv
  have hlen : (H ++ [Ent.arr true 1 sz none []]).length = H.length + 1 := by simp
  show Rd w S ρ' (H ++ [Ent.arr true 1 sz none []]).length x v
  rw [hlen]
  by_cases hj : i = j
  · subst hj
    have hlt := (List.getElem?_eq_some_iff.1 hi).1
    simp [List.getElem?_set, hlt] at hx
    subst hx
    have := hs.tmp i _ v hi hv
    cases this with
    | sl _ _ _ _ A len cap cell hl hc hm hf hsz hcell hA h =>
      have hlen0 : len = 0 := by simpa using hl.symm
      have hcap := hf rfl
      subst hlen0
      subst hcap
      exact .own _ _ _ _ _ _ (by omega) (by rw [hρ']; exact Nat.le_refl _) (Nat.le_refl _) (by omega) (fun _ => by rw [hρ']; exact ⟨rfl, fun h => absurd h (by omega)⟩)
  · have hx' : T[j]? = some x := by
      have := List.getElem?_set_ne (l := T) (a := AV.own H.length 1 0) hj
      rw [← this]; exact hx
    exact (hs.tmp j x v hx' hv).mono (fun k hk => ⟨hk, rfl⟩) (Nat.le_succ _) h2.newer

/-- No elements: of whatever size. -/
theorem reT_nil {fl : Nat} {T : List AV} {H : List Ent} (i z z' : Nat) (fr : Bool) (hi : T[i]? = some (.sl z fr [])) :
    ReT fl ⟨T, H⟩ ⟨T.set i (.sl z' false []), H⟩ := by
  intro w S ρ a hs hl
  refine ⟨S, ρ, ⟨by rw [hs.size]; simp, ?_, hs.mem, hs.defers⟩, Goes.refl w S ρ H hl⟩
  intro j x v hx hv
  show Rd w S ρ H.length x v
  by_cases hj : i = j
  · subst hj
    have hlt := (List.getElem?_eq_some_iff.1 hi).1
    simp [List.getElem?_set, hlt] at hx
    subst hx
    have := hs.tmp i _ v hi hv
    cases this with
    | sl _ _ _ _ A len cap cell hl hc hm hf hsz hcell hA h =>
      have hlen0 : len = 0 := by simpa using hl.symm
      subst hlen0
      exact .sl _ z' false [] A 0 cap cell rfl hc hm (by simp) (by simp) (by intro i k hi; omega) (by omega) (by simp)
  · have hx' : T[j]? = some x := by
      have := List.getElem?_set_ne (l := T) (a := AV.sl z' false []) hj
      rw [← this]; exact hx
    exact hs.tmp j x v hx' hv

/-- A part that is all of its array. -/
theorem reT_whole {fl : Nat} {T : List AV} {H : List Ent} (i q ver len : Nat) (hi : T[i]? = some (.osub q ver 0 len)) :
    ReT fl ⟨T, H⟩ ⟨T.set i (.own q ver len), H⟩ := by
  intro w S ρ a hs hl
  refine ⟨S, ρ, ⟨by rw [hs.size]; simp, ?_, hs.mem, hs.defers⟩, Goes.refl w S ρ H hl⟩
  intro j x v hx hv
  show Rd w S ρ H.length x v
  by_cases hj : i = j
  · subst hj
    have hlt := (List.getElem?_eq_some_iff.1 hi).1
    simp [List.getElem?_set, hlt] at hx
    subst hx
    have := hs.tmp i _ v hi hv
    cases this with
    | osub _ _ _ _ _ A cap hp hv' hc hA h =>
      refine .own _ _ _ _ _ _ hp hv' hc hA (fun he => ?_)
      obtain ⟨h1, h2⟩ := h he
      exact ⟨by simpa using h1, fun h3 => by simpa using h2 h3⟩
  · have hx' : T[j]? = some x := by
      have := List.getElem?_set_ne (l := T) (a := AV.own q ver len) hj
      rw [← this]; exact hx
    exact hs.tmp j x v hx' hv
/-- An array of the call's own, told as a part. -/
theorem reT_part {fl : Nat} {T : List AV} {H : List Ent} (i q ver len : Nat) (hi : T[i]? = some (.own q ver len)) :
    ReT fl ⟨T, H⟩ ⟨T.set i (.osub q ver 0 len), H⟩ := by
  intro w S ρ a hs hl
  refine ⟨S, ρ, ⟨by rw [hs.size]; simp, ?_, hs.mem, hs.defers⟩, Goes.refl w S ρ H hl⟩
  intro j x v hx hv
  show Rd w S ρ H.length x v
  by_cases hj : i = j
  · subst hj
    have hlt := (List.getElem?_eq_some_iff.1 hi).1
    simp [List.getElem?_set, hlt] at hx
    subst hx
    have := hs.tmp i _ v hi hv
    cases this with
    | own _ _ _ _ A cap hp hv' hc hA h =>
      refine .osub _ _ _ _ _ _ _ hp hv' hc hA (fun he => ?_)
      obtain ⟨h1, h2⟩ := h he
      exact ⟨by simpa using h1, fun h3 => by simpa using h2 h3⟩
  · have hx' : T[j]? = some x := by
      have := List.getElem?_set_ne (l := T) (a := AV.osub q ver 0 len) hj
      rw [← this]; exact hx
    exact hs.tmp j x v hx' hv

/-- A part of an array, its front. What lies behind is forgotten. -/
theorem reT_front {fl : Nat} {T : List AV} {H : List Ent} (q n : Nat) {cl : Bool} {ver sz : Nat} {cap : Option Nat} {es : List (List AV)} (hq : H[q]? = some (.arr cl ver sz cap es)) :
    ReT fl ⟨T, H⟩ ⟨T, H.set q (.arr cl ver sz cap (es.take n))⟩ := by
  intro w S ρ a hs hl
  have hqlt := (List.getElem?_eq_some_iff.1 hq).1
  have hset : ∀ (H : List Ent) (q : Nat) (e : Ent), q < H.length → setH H q e = H.set q e := by
    intro H
    induction H with
    | nil => intro q e h; simp at h
    | cons x H ih =>
      intro q e h
      cases q with
      | zero => rfl
      | succ q => exact congrArg (x :: ·) (ih q e (by simpa using h))
  have hent := hs.mem.ent q _ hq
  have hch := hs.mem.change (w' := w) (S' := S) (ρ' := ρ) (p := q) (e' := .arr cl ver sz cap (es.take n)) (Nat.le_of_lt hqlt)
    (fun q hq => rfl) (fun h => .inl rfl) rfl rfl rfl (Nat.le_refl _) (fun _ _ _ => rfl)
    (fun h => .inl ⟨rfl, _, hq, h⟩) (fun _ h => h) (fun _ h => .inl h)
    (by
      rw [hset H q _ hqlt, List.length_set]
      obtain ⟨e1, e2, e3, e4, e5, e6, e7, e8, e9⟩ := hent
      refine ⟨e1, e2, e3, e4, by rw [List.length_take]; omega, e6, e7, fun e he => e8 e (List.mem_of_mem_take he), fun hc => ?_⟩
      obtain ⟨cs, ty, k1, k2, k3, k4⟩ := e9 hc
      refine ⟨cs, ty, k1, k2, k3, fun i k e a v he ha hv => k4 i k e a v ?_ ha hv⟩
      rw [List.getElem?_take] at he
      split at he
      · exact he
      · cases he)
  rw [hset H q _ hqlt] at hch
  exact ⟨S, ρ, ⟨hs.size, fun j x v hx hv => by show Rd w S ρ (H.set q _).length x v; rw [List.length_set]; exact hs.tmp j x v hx hv, hch.1, hs.defers⟩, hch.2.mono hl⟩

/-- All arrays of the call's own become data; nothing of the abstract memory is told any more. -/
theorem reT_freeze {T T' : List AV} {H : List Ent} (hl : T'.length = T.length)
    (h : ∀ (i : Nat) (x y : AV), T[i]? = some x → T'[i]? = some y → y = .junk ∨ ∃ c, rslv1 H x = some (c, y) ∧ condK c True) : ReT 0 ⟨T, H⟩ ⟨T', []⟩ := by
  intro w S ρ a hs _
  have hno : ∀ (ρ : Reg) k, ¬ Own ρ [] k := by rintro ρ k ⟨p, e, he, _⟩; simp at he
  refine ⟨lent S ρ H, ρ, ⟨by rw [hs.size]; exact hl.symm, ?_, ⟨by simp, by simp, fun k hk => ⟨?_, hno ρ k⟩⟩, hs.defers⟩,
    ⟨rfl, rfl, rfl, Nat.le_refl _, fun _ _ _ => rfl, fun k hk => absurd hk (hno ρ k), fun k hk => .inl hk, fun k hk => ?_, Nat.zero_le _, fun p hp => absurd hp (by omega)⟩⟩
  · intro i y v hy hv
    have hlt : i < T.length := by have := (List.getElem?_eq_some_iff.1 hy).1; simp at this; omega
    have hx : T[i]? = some T[i] := List.getElem?_eq_getElem hlt
    rcases h i _ y hx hy with rfl | ⟨c, h1, h2⟩
    · exact .junk _ _
    · exact rslv1_rd hs.mem (hs.tmp i _ v hx hv) h1 h2 _
  · rcases hk with hk | hk
    · exact (hs.mem.stab k hk).1
    · exact hs.mem.own_lt hk
  · rcases hk with hk | hk
    · exact .inl hk
    · exact .inr (.inl hk)

/-- One array of the call's own becomes data. -/
theorem reT_freeze1 {T : List AV} (j ver len sz : Nat) {cap : Option Nat} {es : List (List AV)} (hj : T[j]? = some (.own 0 ver len)) (hl : len = es.length) (hc : closedAll (T.set j .junk) = true) :
    ReT 0 ⟨T, [.arr true ver sz cap es]⟩ ⟨T.set j (.sl sz false es), []⟩ := by
  have hcl : ∀ (L : List AV), closedAll L = true → ∀ (i : Nat) (x : AV), L[i]? = some x → closed1 x = true := by
    intro L
    induction L with
    | nil => intro _ i x h; simp at h
    | cons v L ih =>
      intro hb i x h
      obtain ⟨h1, h2⟩ := andB_true hb
      cases i with
      | zero => simp at h; subst h; exact h1
      | succ i => exact ih h2 i x (by simpa using h)
  have hno : ∀ (ρ : Reg) k, ¬ Own ρ [] k := by rintro ρ k ⟨p, e, he, _⟩; simp at he
  have hlt := (List.getElem?_eq_some_iff.1 hj).1
  intro w S ρ a hs _
  refine ⟨lent S ρ [.arr true ver sz cap es], ρ, ⟨by rw [hs.size]; simp, ?_, ⟨by simp, by simp, fun k hk => ⟨?_, hno ρ k⟩⟩, hs.defers⟩,
    ⟨rfl, rfl, rfl, Nat.le_refl _, fun _ _ _ => rfl, fun k hk => absurd hk (hno ρ k), fun k hk => .inl hk, fun k hk => ?_, Nat.zero_le _, fun p hp => absurd hp (by omega)⟩⟩
  · intro i y v hy hv
    by_cases hji : j = i
    · subst hji
      simp [List.getElem?_set, hlt] at hy
      subst hy
      exact rslv1_rd (c := some (dp (ver = ver ∧ len = es.length))) hs.mem (hs.tmp j _ v hj hv) rfl ⟨⟨rfl, hl⟩, trivial⟩ _
    · have hy' : T[i]? = some y := by
        have := List.getElem?_set_ne (l := T) (a := AV.sl sz false es) hji
        rw [← this]; exact hy
      have hy'' : (T.set j .junk)[i]? = some y := by
        rw [List.getElem?_set_ne hji]; exact hy'
      exact ((hs.tmp i y v hy' hv).closed1 (hcl _ hc i y hy'')).lend
  · rcases hk with hk | hk
    · exact (hs.mem.stab k hk).1
    · exact hs.mem.own_lt hk
  · rcases hk with hk | hk
    · exact .inl hk
    · exact .inr (.inl hk)

def roundS (fl : Nat) (I : Nat → St → Prop) (n : Nat) (Q : KontX) : KontX
  | .normal, s => ∃ m s', m < n ∧ I m s' ∧ ReT fl s s'
  | .exit i, s => Q (.exit i) s
  | .ret, s => Q .ret s
/-- A loop: what holds at the head of each round, told as is best. -/
def wLoopS (fl : Nat) (body : St → KontX → Prop) (s : St) (Q : KontX) : Prop :=
  ∃ (I : Nat → St → Prop), (∃ n s', I n s' ∧ ReT fl s s') ∧ ∀ n s1, I n s1 → body s1 (roundS fl I n Q)

def wCodeS (te : TE) (Γ : GE) (fl : Nat) : Code → St → KontX → Prop
  | .skip, s, Q => Q .normal s
  | .region _ ops dr, s, Q => wRegion te Γ ops.toList s (kNormal Q) dr
  | .seq a b, s, Q => wCodeS te Γ fl a s (seqQ (wCodeS te Γ fl b) Q)
  | .cond c a b, s, Q => condV (wCodeS te Γ fl a s Q) (wCodeS te Γ fl b s Q) (ev s.T c)
  | .block id c, s, Q => wCodeS te Γ fl c s (blkQ id Q)
  | .loop c, s, Q => wLoopS fl (wCodeS te Γ fl c) s Q
  | .exit i, s, Q => Q (.exit i) s
  | .ret, s, Q => Q .ret s
  | _, _, _ => False
def wBodyS (te : TE) (Γ : GE) (fn : Func) (args : List AV) (H : List Ent) (Φ : AV → List Ent → Prop) : Option Code → Prop
  | some c => wCodeS te Γ H.length c ⟨padTo fn.ntmps args, H⟩ (endQ te fn Φ)
  | none => False
def wFunBS (te : TE) (Γ : GE) (fn : Func) (args : List AV) (H : List Ent) (Φ : AV → List Ent → Prop) : Bool → Prop
  | true => wBodyS te Γ fn args H Φ fn.body
  | false => False
def wFunS (te : TE) (Γ : GE) (fn : Func) : GSpec := fun args H Φ => wFunBS te Γ fn args H Φ (leb args.length fn.ntmps)

section
variable {P : Program} {w0 : World} {S0 : Nat → Prop} {ρ0 : Reg} {H0 : List Ent} {fl : Nat}
theorem code_soundS {te : TE} (hte : TEok P te) {Γ : GE} (hΓ : Sound P Γ) (hmix : P.follows .mixedOrders = true) : ∀ (c : Code) {s : St} {Q : KontX} {w : World} {S : Nat → Prop} {ρ : Reg} {a : Act}, wCodeS te Γ fl c s Q → RS w S ρ s a → Goes w0 S0 ρ0 H0 w S ρ s.H fl →
    c.wp P (SatX w0 S0 ρ0 H0 fl Q) a w := by
  intro c
  induction c with
  | skip => intro s Q w S ρ a hw hs hg; exact wp_skip ⟨s, S, ρ, hs, hg, hw⟩
  | ret => intro s Q w S ρ a hw hs hg; exact wp_ret ⟨s, S, ρ, hs, hg, hw⟩
  | exit i => intro s Q w S ρ a hw hs hg; exact wp_exit ⟨s, S, ρ, hs, hg, hw⟩
  | region id ops dr =>
    intro s Q w S ρ a hw hs hg
    have hn : ∀ w' S' ρ' s' a', RS w' S' ρ' s' a' → Goes w S ρ s.H w' S' ρ' s'.H s.H.length → kNormal Q s' → SatX w0 S0 ρ0 H0 fl Q .normal a' w' := fun w' S' ρ' s' a' hs' hg' hk => ⟨s', S', ρ', hs', hg.trans (hg'.mono hg.len), hk⟩
    cases dr with
    | false =>
      have := wSeq_sound hte hΓ ops.toList [] (Q := SatX w0 S0 ρ0 H0 fl Q) rfl hs hw hn
      refine wp_region ?_
      rw [List.range_eq_range']
      simpa using this
    | true => exact draw_sound hte hΓ hmix hw hs hn
  | seq x y ihx ihy =>
    intro s Q w S ρ a hw hs hg
    refine wp_seq (wp_mono (ihx hw hs hg) ?_)
    intro e a' w' hq
    cases e with
    | normal => obtain ⟨s', S', ρ', h1, h2, h3⟩ := hq; exact ihy h3 h1 h2
    | exit i => exact hq
    | ret => exact hq
    | _ => exact hq.elim
  | cond c x y ihx ihy =>
    intro s Q w S ρ a hw hs hg
    simp only [wCodeS] at hw
    have hc := hs.ev c
    generalize hev : ev s.T c = cv at hw hc
    generalize hvc : a.eval c = v at hc
    cases cv <;> simp only [condV] at hw
    rename_i b
    cases hc
    refine wp_cond hvc ?_
    cases b with
    | true => exact ihx hw hs hg
    | false => exact ihy hw hs hg
  | block id c ih =>
    intro s Q w S ρ a hw hs hg
    refine wp_block (wp_mono (ih hw hs hg) ?_)
    intro e a' w' hq
    cases e with
    | normal => exact hq
    | ret => exact hq
    | exit i =>
      obtain ⟨s', S', ρ', h1, h2, h3⟩ := hq
      simp only [blkQ] at h3
      simp only [Exit.inBlock]
      cases hb : eqb i id with
      | true =>
        rw [hb] at h3
        rw [if_pos (eqb_eq hb)]
        exact ⟨s', S', ρ', h1, h2, h3⟩
      | false =>
        rw [hb] at h3
        rw [if_neg (eqb_ne hb)]
        exact ⟨s', S', ρ', h1, h2, h3⟩
    | _ => exact hq.elim
  | loop c ih =>
    intro s Q w S ρ a hw hs hg
    simp only [wCodeS] at hw
    obtain ⟨I, ⟨n, s0, hI, hR⟩, hround⟩ := hw
    let Good : Nat → Act → World → Prop := fun n a w => ∃ s1 S ρ, RS w S ρ s1 a ∧ Goes w0 S0 ρ0 H0 w S ρ s1.H fl ∧ I n s1
    have hmin : ∀ a w, (∃ n, Good n a w) → ∃ n, Good n a w ∧ ∀ m, Good m a w → n ≤ m := by
      rintro a w ⟨n, hn⟩
      induction n using Nat.strongRecOn with
      | _ n ihn =>
        by_cases hex : ∃ m, m < n ∧ Good m a w
        · obtain ⟨m, hm, hg'⟩ := hex; exact ihn m hm hg'
        · exact ⟨n, hn, fun m hm => by
            rcases Nat.lt_or_ge m n with h | h
            · exact absurd ⟨m, h, hm⟩ hex
            · exact h⟩
    let μ : Act → World → Nat := fun a w => Classical.epsilon fun n => Good n a w ∧ ∀ m, Good m a w → n ≤ m
    have hμ : ∀ a w, (∃ n, Good n a w) → Good (μ a w) a w ∧ ∀ m, Good m a w → μ a w ≤ m := fun a w h => Classical.epsilon_spec (p := fun n => Good n a w ∧ ∀ m, Good m a w → n ≤ m) (hmin a w h)
    refine wp_loop (fun a w => ∃ n, Good n a w) μ ?_ ?_
    · obtain ⟨S', ρ', c1, c2⟩ := hR w S ρ a hs hg.len
      exact ⟨n, s0, S', ρ', c1, hg.trans c2, hI⟩
    · intro a' w' hex
      obtain ⟨⟨s1, S1, ρ1, r1, r2, r3⟩, _⟩ := hμ a' w' hex
      refine wp_mono (ih (hround _ s1 r3) r1 r2) ?_
      intro e a'' w'' hq
      cases e with
      | normal =>
        obtain ⟨s', S', ρ', h1, h2, ⟨m, s2, h4, h5, h6⟩⟩ := hq
        obtain ⟨S'', ρ'', c1, c2⟩ := h6 _ S' ρ' _ h1 h2.len
        have hgood : Good m a'' w'' := ⟨s2, S'', ρ'', c1, h2.trans c2, h5⟩
        exact ⟨⟨m, hgood⟩, Nat.lt_of_le_of_lt ((hμ a'' w'' ⟨m, hgood⟩).2 m hgood) h4⟩
      | exit i => exact hq
      | ret => exact hq
      | _ => exact hq.elim
  | _ => intro s Q w S ρ a hw hs hg; exact hw.elim

theorem fun_soundS {te : TE} (hte : TEok P te) {Γ : GE} (hΓ : Sound P Γ) (hmix : P.follows .mixedOrders = true) {f : FuncId} {fn : Func} (hf : IsFun P f fn) : GSound P f (wFunS te Γ fn) := by
  intro w S ρ H xs args Φ hm hargs hw
  left
  refine ⟨run_callFunc hf args w, ?_⟩
  cases hb : fn.body with
  | none => have := hf.body; rw [hb] at this; cases this
  | some c =>
    unfold wFunS at hw
    cases hle : leb xs.length fn.ntmps with
    | false => rw [hle] at hw; cases hw
    | true =>
      rw [hle] at hw
      simp only [wFunBS, hb, wBodyS] at hw
      have hn := leb_le hle
      refine calls_of_wp hf.at_ hb ?_
      have hs : RS w S ρ ⟨padTo fn.ntmps xs, H⟩ { tmps := args ++ Array.replicate (fn.ntmps - args.size) undef, defers := [] } := by
        refine ⟨?_, ?_, hm, rfl⟩
        · simp [padTo_length, hargs.1]; omega
        · intro i x v hx hv
          rcases padTo_get _ _ i x hx with h | rfl
          · have hi := (List.getElem?_eq_some_iff.1 h).1
            rw [Array.getElem?_append_left (by rw [hargs.1]; exact hi)] at hv
            exact hargs.2 i x v h hv
          · exact .junk _ _
      refine wp_mono (code_soundS (w0 := w) (S0 := S) (ρ0 := ρ) (H0 := H) (fl := H.length) hte hΓ hmix c hw hs (Goes.refl w S ρ H (Nat.le_refl _))) ?_
      intro e a' w' hq
      have fin : ∀ s S' ρ', RS w' S' ρ' s a' → Goes w S ρ H w' S' ρ' s.H H.length → resK Φ s.H (resV (resAll te s.T s.H fn.resultTypes.toList fn.results.toList)) → a'.defers = [] ∧ ∃ v, (results fn a'.tmps).run P w' = .ok v w' ∧ GPost w S ρ H Φ v w' := by
        intro s S' ρ' h1 h2 h3
        refine ⟨h1.defers, ?_⟩
        cases hr : resV (resAll te s.T s.H fn.resultTypes.toList fn.results.toList) with
        | none => rw [hr] at h3; cases h3
        | some v =>
          rw [hr] at h3
          obtain ⟨x, k1, k2⟩ := results_sound (P := P) hte h1 fn hr
          exact ⟨x, k1, v, s.H, S', ρ', h3, h1.mem, k2, h2⟩
      cases e with
      | normal => obtain ⟨s, S', ρ', h1, h2, h3⟩ := hq; exact fin s S' ρ' h1 h2 h3
      | ret => obtain ⟨s, S', ρ', h1, h2, h3⟩ := hq; exact fin s S' ρ' h1 h2 h3
      | exit i => obtain ⟨s, S', ρ', h1, h2, h3⟩ := hq; exact h3.elim
      | _ => exact hq.elim

/-- A function under a contract on data. -/
theorem dat_soundS {te : TE} (hte : TEok P te) {Γ : GE} (hΓ : Sound P Γ) (hmix : P.follows .mixedOrders = true) {f : FuncId} {fn : Func} (hf : IsFun P f fn) {D : DSpec} (hD : ∀ xs Φ, D xs Φ → wFunS te Γ fn xs [] (datFin Φ)) : DSound P f D := by
  intro w S ρ xs args Φ hS hargs hd
  have hno : ∀ (ρ : Reg) k, ¬ Own ρ [] k := by rintro ρ k ⟨p, e, he, _⟩; simp at he
  have hm : RH w S ρ [] := ⟨by simp, by simp, fun k hk => ⟨hS k hk, hno ρ k⟩⟩
  refine CallRuns.mono (fun_soundS hte hΓ hmix hf w S ρ [] xs args _ hm hargs (hD xs Φ hd)) ?_
  rintro v w' ⟨r, H', S', ρ', h1, h2, h3, h4⟩
  unfold datFin at h1
  cases hr : rslvR H' r with
  | none => rw [hr] at h1; cases h1
  | some q =>
    obtain ⟨c, x⟩ := q
    rw [hr] at h1
    obtain ⟨hc, hΦ⟩ := condK_split h1
    refine ⟨x, .none, lent S' ρ' H', ρ', hΦ, trivial, ⟨by simp [entL], by simp [entL], fun k hk => ⟨?_, hno ρ' k⟩⟩, rslvR_rd h2 h3 hr hc 0, ?_⟩
    · rcases hk with hk | hk
      · exact (h2.stab k hk).1
      · exact h2.own_lt hk
    · refine ⟨h4.os, h4.tape, h4.output, h4.size, fun k hk _ => h4.keep k hk (hno ρ k), fun k hk => absurd hk (hno ρ' k), fun k hk => .inl (h4.up k hk), ?_, Nat.zero_le _, fun p hp => absurd hp (by omega)⟩
      rintro k (hk | hk)
      · rcases h4.down k hk with h | h | h
        · exact .inl h
        · exact absurd h (hno ρ k)
        · exact .inr (.inr h)
      · rcases h4.own k hk with h | h
        · exact absurd h (hno ρ k)
        · exact .inr (.inr h)


end
/-- Out of a loop, into what follows. -/
theorem rs_exit {fl : Nat} {I : Nat → St → Prop} {n i : Nat} {f : St → KontX → Prop} {Q : KontX} {s : St} (h : f s Q) : roundS fl I n (blkQ i (seqQ f Q)) (.exit i) s := by
  show exitQ i (seqQ f Q) s (eqb i i)
  rw [eqb_self]
  exact h
theorem rs_ret {fl : Nat} {I : Nat → St → Prop} {n i : Nat} {f : St → KontX → Prop} {Q : KontX} {s : St} (h : Q .ret s) : roundS fl I n (blkQ i (seqQ f Q)) .ret s := h
theorem reT_to {fl : Nat} {s s' : St} (keep : List Bool) (nh : Nat) (hc : cutOK keep nh s = true) (hf : fl ≤ nh) (he : cut keep nh s = s') : ReT fl s s' := he ▸ reT_cut keep nh hc hf
end Go.Rf
end
/-
  THE SYMBOLIC EXECUTOR: loops that forget at the end of each round, and on the way out; rows of temporaries told by what they hold.
-/
section
set_option linter.unusedVariables false
set_option linter.unusedSimpArgs false
namespace Go.Rf

/-- So many temporaries of which nothing is known. -/
def jk : Nat → List AV → List AV
  | 0, l => l
  | n + 1, l => .junk :: jk n l

/-- What goes on behind a round: only what is kept. -/
def cutK (R : St → Prop) (keep : List Bool) (nh : Nat) (K : KontX) : KontX
  | .normal, s => ifB (cutOK keep nh s) (K .normal (cut keep nh s)) False
  | .exit i, s => ifB (cutOK keep nh s) (K (.exit i) (cut keep nh s)) False
  | .ret, s => R s
def roundC (fl : Nat) (I : Nat → St → Prop) (n : Nat) (Q : KontX) : KontX
  | .normal, s => ∃ m s', m < n ∧ I m s' ∧ ReT fl s s'
  | .exit i, s => ∃ s', ReT fl s s' ∧ Q (.exit i) s'
  | .ret, s => Q .ret s
def wLoopK (fl : Nat) (body : St → KontX → Prop) (s : St) (Q : KontX) : Prop :=
  ∃ (keep : List Bool) (nh : Nat) (I : Nat → St → Prop), fl ≤ nh ∧ (∃ n s', I n s' ∧ ReT fl s s') ∧ ∀ n s1, I n s1 → body s1 (cutK (Q .ret) keep nh (roundC fl I n Q))

/-- What is kept of the temporaries alone. -/
def maskS (keep : List Bool) (s : St) : St := ⟨maskT keep s.T, s.H⟩
def maskK (R : St → Prop) (keep : List Bool) (K : KontX) : KontX
  | .normal, s => K .normal (maskS keep s)
  | .exit i, s => K (.exit i) (maskS keep s)
  | .ret, s => R s
/-- The machine, told as is best, since the function's begin. -/
def Told (w0 : World) (S0 : Nat → Prop) (ρ0 : Reg) (H0 : List Ent) (fl : Nat) (a : Act) (w : World) (X : World → (Nat → Prop) → Reg → St → Prop) : Prop :=
  ∃ S ρ s, RS w S ρ s a ∧ Goes w0 S0 ρ0 H0 w S ρ s.H fl ∧ X w S ρ s
def ghostK (w0 : World) (S0 : Nat → Prop) (ρ0 : Reg) (H0 : List Ent) (fl : Nat) (I : Nat → World → (Nat → Prop) → Reg → St → Prop) (n : Nat) (w : World) (S : Nat → Prop) (ρ : Reg) (H : List Ent) (Q : KontX) : KontX
  | .normal, s => ∀ w' S' ρ' a, RS w' S' ρ' s a → Goes w S ρ H w' S' ρ' s.H fl → ∃ m, m < n ∧ Told w0 S0 ρ0 H0 fl a w' (I m)
  | .exit i, s => ∀ w' S' ρ' a, RS w' S' ρ' s a → Goes w S ρ H w' S' ρ' s.H fl → Told w0 S0 ρ0 H0 fl a w' (fun _ _ _ s' => Q (.exit i) s')
  | .ret, s => Q .ret s
/-- A loop whose rounds are told of the machine itself. -/
def wLoopG (fl : Nat) (body : St → KontX → Prop) (s : St) (Q : KontX) : Prop :=
  ∀ w0 S0 ρ0 H0, ∃ (keep : List Bool) (I : Nat → World → (Nat → Prop) → Reg → St → Prop),
    (∀ w S ρ a, RS w S ρ s a → Goes w0 S0 ρ0 H0 w S ρ s.H fl → ∃ n, Told w0 S0 ρ0 H0 fl a w (I n)) ∧
    ∀ n w S ρ s1 a, RS w S ρ s1 a → Goes w0 S0 ρ0 H0 w S ρ s1.H fl → I n w S ρ s1 →
      ∃ S1 ρ1 s2, RS w S1 ρ1 s2 a ∧ Goes w0 S0 ρ0 H0 w S1 ρ1 s2.H fl ∧ body s2 (maskK (Q .ret) keep (ghostK w0 S0 ρ0 H0 fl I n w S1 ρ1 s2.H Q))
def wLoopM (fl : Nat) (body : St → KontX → Prop) (s : St) (Q : KontX) : Prop :=
  ∃ (keep : List Bool) (I : Nat → St → Prop), (∃ n s', I n s' ∧ ReT fl s s') ∧ ∀ n s1, I n s1 → body s1 (maskK (Q .ret) keep (roundC fl I n Q))
def wLoopC (fl : Nat) (body : St → KontX → Prop) (s : St) (Q : KontX) : Prop := wLoopK fl body s Q ∨ (wLoopG fl body s Q ∨ wLoopM fl body s Q)

def wCodeC (te : TE) (Γ : GE) (fl : Nat) : Code → St → KontX → Prop
  | .skip, s, Q => Q .normal s
  | .region _ ops dr, s, Q => wRegion te Γ ops.toList s (kNormal Q) dr
  | .seq a b, s, Q => wCodeC te Γ fl a s (seqQ (wCodeC te Γ fl b) Q)
  | .cond c a b, s, Q => condV (wCodeC te Γ fl a s Q) (wCodeC te Γ fl b s Q) (ev s.T c)
  | .block id c, s, Q => wCodeC te Γ fl c s (blkQ id Q)
  | .loop c, s, Q => wLoopC fl (wCodeC te Γ fl c) s Q
  | .exit i, s, Q => Q (.exit i) s
  | .ret, s, Q => Q .ret s
  | _, _, _ => False
def wBodyC (te : TE) (Γ : GE) (fn : Func) (args : List AV) (H : List Ent) (Φ : AV → List Ent → Prop) : Option Code → Prop
  | some c => wCodeC te Γ H.length c ⟨padTo fn.ntmps args, H⟩ (endQ te fn Φ)
  | none => False
def wFunBC (te : TE) (Γ : GE) (fn : Func) (args : List AV) (H : List Ent) (Φ : AV → List Ent → Prop) : Bool → Prop
  | true => wBodyC te Γ fn args H Φ fn.body
  | false => False
def wFunC (te : TE) (Γ : GE) (fn : Func) : GSpec := fun args H Φ => wFunBC te Γ fn args H Φ (leb args.length fn.ntmps)

section
variable {P : Program} {fl : Nat}

theorem ifB_only {b : Bool} {A : Prop} (h : ifB b A False) : b = true ∧ A := by cases b with | true => exact ⟨rfl, h⟩ | false => exact h.elim
theorem reT_mask {fl : Nat} (keep : List Bool) (s : St) : ReT fl s (maskS keep s) := by
  intro w S ρ a hs hl
  refine ⟨S, ρ, ⟨by rw [hs.size]; exact (maskT_length keep s.T).symm, fun i x v hx hv => ?_, hs.mem, hs.defers⟩, Goes.refl w S ρ s.H hl⟩
  obtain ⟨y, hy, hxy⟩ := maskT_get keep s.T i x hx
  rcases hxy with rfl | rfl
  · exact hs.tmp i _ v hy hv
  · exact .junk _ _
theorem code_soundC {te : TE} (hte : TEok P te) {Γ : GE} (hΓ : Sound P Γ) (hmix : P.follows .mixedOrders = true) : ∀ (c : Code) {w0 : World} {S0 : Nat → Prop} {ρ0 : Reg} {H0 : List Ent} {s : St} {Q : KontX} {w : World} {S : Nat → Prop} {ρ : Reg} {a : Act}, wCodeC te Γ fl c s Q → RS w S ρ s a → Goes w0 S0 ρ0 H0 w S ρ s.H fl →
    c.wp P (SatX w0 S0 ρ0 H0 fl Q) a w := by
  intro c
  induction c with
  | skip => intro w0 S0 ρ0 H0 s Q w S ρ a hw hs hg; exact wp_skip ⟨s, S, ρ, hs, hg, hw⟩
  | ret => intro w0 S0 ρ0 H0 s Q w S ρ a hw hs hg; exact wp_ret ⟨s, S, ρ, hs, hg, hw⟩
  | exit i => intro w0 S0 ρ0 H0 s Q w S ρ a hw hs hg; exact wp_exit ⟨s, S, ρ, hs, hg, hw⟩
  | region id ops dr =>
    intro w0 S0 ρ0 H0 s Q w S ρ a hw hs hg
    have hn : ∀ w' S' ρ' s' a', RS w' S' ρ' s' a' → Goes w S ρ s.H w' S' ρ' s'.H s.H.length → kNormal Q s' → SatX w0 S0 ρ0 H0 fl Q .normal a' w' := fun w' S' ρ' s' a' hs' hg' hk => ⟨s', S', ρ', hs', hg.trans (hg'.mono hg.len), hk⟩
    cases dr with
    | false =>
      have := wSeq_sound hte hΓ ops.toList [] (Q := SatX w0 S0 ρ0 H0 fl Q) rfl hs hw hn
      refine wp_region ?_
      rw [List.range_eq_range']
      simpa using this
    | true => exact draw_sound hte hΓ hmix hw hs hn
  | seq x y ihx ihy =>
    intro w0 S0 ρ0 H0 s Q w S ρ a hw hs hg
    refine wp_seq (wp_mono (ihx hw hs hg) ?_)
    intro e a' w' hq
    cases e with
    | normal => obtain ⟨s', S', ρ', h1, h2, h3⟩ := hq; exact ihy h3 h1 h2
    | exit i => exact hq
    | ret => exact hq
    | _ => exact hq.elim
  | cond c x y ihx ihy =>
    intro w0 S0 ρ0 H0 s Q w S ρ a hw hs hg
    simp only [wCodeC] at hw
    have hc := hs.ev c
    generalize hev : ev s.T c = cv at hw hc
    generalize hvc : a.eval c = v at hc
    cases cv <;> simp only [condV] at hw
    rename_i b
    cases hc
    refine wp_cond hvc ?_
    cases b with
    | true => exact ihx hw hs hg
    | false => exact ihy hw hs hg
  | block id c ih =>
    intro w0 S0 ρ0 H0 s Q w S ρ a hw hs hg
    refine wp_block (wp_mono (ih hw hs hg) ?_)
    intro e a' w' hq
    cases e with
    | normal => exact hq
    | ret => exact hq
    | exit i =>
      obtain ⟨s', S', ρ', h1, h2, h3⟩ := hq
      simp only [blkQ] at h3
      simp only [Exit.inBlock]
      cases hb : eqb i id with
      | true =>
        rw [hb] at h3
        rw [if_pos (eqb_eq hb)]
        exact ⟨s', S', ρ', h1, h2, h3⟩
      | false =>
        rw [hb] at h3
        rw [if_neg (eqb_ne hb)]
        exact ⟨s', S', ρ', h1, h2, h3⟩
    | _ => exact hq.elim
  | loop c ih =>
    intro w0 S0 ρ0 H0 s Q w S ρ a hw hs hg
    simp only [wCodeC] at hw
    rcases hw with hw | hw | hw
    · obtain ⟨keep, nh, I, hnh, ⟨n, s0, hI, hR⟩, hround⟩ := hw
      let Good : Nat → Act → World → Prop := fun n a w => ∃ s1 S ρ, RS w S ρ s1 a ∧ Goes w0 S0 ρ0 H0 w S ρ s1.H fl ∧ I n s1
      have hmin : ∀ a w, (∃ n, Good n a w) → ∃ n, Good n a w ∧ ∀ m, Good m a w → n ≤ m := by
        rintro a w ⟨n, hn⟩
        induction n using Nat.strongRecOn with
        | _ n ihn =>
          by_cases hex : ∃ m, m < n ∧ Good m a w
          · obtain ⟨m, hm, hg'⟩ := hex; exact ihn m hm hg'
          · exact ⟨n, hn, fun m hm => by
              rcases Nat.lt_or_ge m n with h | h
              · exact absurd ⟨m, h, hm⟩ hex
              · exact h⟩
      let μ : Act → World → Nat := fun a w => Classical.epsilon fun n => Good n a w ∧ ∀ m, Good m a w → n ≤ m
      have hμ : ∀ a w, (∃ n, Good n a w) → Good (μ a w) a w ∧ ∀ m, Good m a w → μ a w ≤ m := fun a w h => Classical.epsilon_spec (p := fun n => Good n a w ∧ ∀ m, Good m a w → n ≤ m) (hmin a w h)
      refine wp_loop (fun a w => ∃ n, Good n a w) μ ?_ ?_
      · obtain ⟨S', ρ', c1, c2⟩ := hR w S ρ a hs hg.len
        exact ⟨n, s0, S', ρ', c1, hg.trans c2, hI⟩
      · intro a' w' hex
        obtain ⟨⟨s1, S1, ρ1, r1, r2, r3⟩, _⟩ := hμ a' w' hex
        refine wp_mono (ih (hround _ s1 r3) r1 r2) ?_
        intro e a'' w'' hq
        cases e with
        | normal =>
          obtain ⟨s', S', ρ', h1, h2, h3⟩ := hq
          obtain ⟨h3a, m, s2, h4, h5, h6⟩ := ifB_only h3
          obtain ⟨S'', ρ'', c1, c2⟩ := (reT_cut keep nh h3a hnh).trans h6 _ S' ρ' _ h1 h2.len
          have hgood : Good m a'' w'' := ⟨s2, S'', ρ'', c1, h2.trans c2, h5⟩
          exact ⟨⟨m, hgood⟩, Nat.lt_of_le_of_lt ((hμ a'' w'' ⟨m, hgood⟩).2 m hgood) h4⟩
        | exit i =>
          obtain ⟨s', S', ρ', h1, h2, h3⟩ := hq
          obtain ⟨h3a, s2, h6, h5⟩ := ifB_only h3
          obtain ⟨S'', ρ'', c1, c2⟩ := (reT_cut keep nh h3a hnh).trans h6 _ S' ρ' _ h1 h2.len
          exact ⟨s2, S'', ρ'', c1, h2.trans c2, h5⟩
        | ret => exact hq
        | _ => exact hq.elim
    · obtain ⟨keep, I, hstart, hround⟩ := hw w0 S0 ρ0 H0
      let Good : Nat → Act → World → Prop := fun n a w => Told w0 S0 ρ0 H0 fl a w (I n)
      have hmin : ∀ a w, (∃ n, Good n a w) → ∃ n, Good n a w ∧ ∀ m, Good m a w → n ≤ m := by
        rintro a w ⟨n, hn⟩
        induction n using Nat.strongRecOn with
        | _ n ihn =>
          by_cases hex : ∃ m, m < n ∧ Good m a w
          · obtain ⟨m, hm, hg'⟩ := hex; exact ihn m hm hg'
          · exact ⟨n, hn, fun m hm => by
              rcases Nat.lt_or_ge m n with h | h
              · exact absurd ⟨m, h, hm⟩ hex
              · exact h⟩
      let μ : Act → World → Nat := fun a w => Classical.epsilon fun n => Good n a w ∧ ∀ m, Good m a w → n ≤ m
      have hμ : ∀ a w, (∃ n, Good n a w) → Good (μ a w) a w ∧ ∀ m, Good m a w → μ a w ≤ m := fun a w h => Classical.epsilon_spec (p := fun n => Good n a w ∧ ∀ m, Good m a w → n ≤ m) (hmin a w h)
      refine wp_loop (fun a w => ∃ n, Good n a w) μ ?_ ?_
      · exact hstart w S ρ a hs hg
      · intro a' w' hex
        obtain ⟨⟨S1, ρ1, s1, r1, r2, r3⟩, _⟩ := hμ a' w' hex
        obtain ⟨S2, ρ2, s2, q1, q2, q3⟩ := hround _ w' S1 ρ1 s1 a' r1 r2 r3
        refine wp_mono (ih q3 q1 (Goes.refl w' S2 ρ2 s2.H q2.len)) ?_
        intro e a'' w'' hq
        cases e with
        | normal =>
          obtain ⟨s', S', ρ', h1, h2, h3⟩ := hq
          obtain ⟨S3, ρ3, k1, k2⟩ := reT_mask (fl := fl) keep s' w'' S' ρ' a'' h1 h2.len
          obtain ⟨m, hm, hT⟩ := h3 w'' S3 ρ3 a'' k1 (h2.trans k2)
          exact ⟨⟨m, hT⟩, Nat.lt_of_le_of_lt ((hμ a'' w'' ⟨m, hT⟩).2 m hT) hm⟩
        | exit i =>
          obtain ⟨s', S', ρ', h1, h2, h3⟩ := hq
          obtain ⟨S3, ρ3, k1, k2⟩ := reT_mask (fl := fl) keep s' w'' S' ρ' a'' h1 h2.len
          obtain ⟨S4, ρ4, s4, t1, t2, t3⟩ := h3 w'' S3 ρ3 a'' k1 (h2.trans k2)
          exact ⟨s4, S4, ρ4, t1, t2, t3⟩
        | ret =>
          obtain ⟨s', S', ρ', h1, h2, h3⟩ := hq
          exact ⟨s', S', ρ', h1, q2.trans h2, h3⟩
        | _ => exact hq.elim
    · obtain ⟨keep, I, ⟨n, s0, hI, hR⟩, hround⟩ := hw
      let Good : Nat → Act → World → Prop := fun n a w => ∃ s1 S ρ, RS w S ρ s1 a ∧ Goes w0 S0 ρ0 H0 w S ρ s1.H fl ∧ I n s1
      have hmin : ∀ a w, (∃ n, Good n a w) → ∃ n, Good n a w ∧ ∀ m, Good m a w → n ≤ m := by
        rintro a w ⟨n, hn⟩
        induction n using Nat.strongRecOn with
        | _ n ihn =>
          by_cases hex : ∃ m, m < n ∧ Good m a w
          · obtain ⟨m, hm, hg'⟩ := hex; exact ihn m hm hg'
          · exact ⟨n, hn, fun m hm => by
              rcases Nat.lt_or_ge m n with h | h
              · exact absurd ⟨m, h, hm⟩ hex
              · exact h⟩
      let μ : Act → World → Nat := fun a w => Classical.epsilon fun n => Good n a w ∧ ∀ m, Good m a w → n ≤ m
      have hμ : ∀ a w, (∃ n, Good n a w) → Good (μ a w) a w ∧ ∀ m, Good m a w → μ a w ≤ m := fun a w h => Classical.epsilon_spec (p := fun n => Good n a w ∧ ∀ m, Good m a w → n ≤ m) (hmin a w h)
      refine wp_loop (fun a w => ∃ n, Good n a w) μ ?_ ?_
      · obtain ⟨S', ρ', c1, c2⟩ := hR w S ρ a hs hg.len
        exact ⟨n, s0, S', ρ', c1, hg.trans c2, hI⟩
      · intro a' w' hex
        obtain ⟨⟨s1, S1, ρ1, r1, r2, r3⟩, _⟩ := hμ a' w' hex
        refine wp_mono (ih (hround _ s1 r3) r1 r2) ?_
        intro e a'' w'' hq
        cases e with
        | normal =>
          obtain ⟨s', S', ρ', h1, h2, h3⟩ := hq
          obtain ⟨m, s2, h4, h5, h6⟩ := h3
          obtain ⟨S'', ρ'', c1, c2⟩ := (reT_mask keep s').trans h6 _ S' ρ' _ h1 h2.len
          have hgood : Good m a'' w'' := ⟨s2, S'', ρ'', c1, h2.trans c2, h5⟩
          exact ⟨⟨m, hgood⟩, Nat.lt_of_le_of_lt ((hμ a'' w'' ⟨m, hgood⟩).2 m hgood) h4⟩
        | exit i =>
          obtain ⟨s', S', ρ', h1, h2, h3⟩ := hq
          obtain ⟨s2, h6, h5⟩ := h3
          obtain ⟨S'', ρ'', c1, c2⟩ := (reT_mask keep s').trans h6 _ S' ρ' _ h1 h2.len
          exact ⟨s2, S'', ρ'', c1, h2.trans c2, h5⟩
        | ret => exact hq
        | _ => exact hq.elim
  | _ => intro w0 S0 ρ0 H0 s Q w S ρ a hw hs hg; exact hw.elim

theorem fun_soundC {te : TE} (hte : TEok P te) {Γ : GE} (hΓ : Sound P Γ) (hmix : P.follows .mixedOrders = true) {f : FuncId} {fn : Func} (hf : IsFun P f fn) : GSound P f (wFunC te Γ fn) := by
  intro w S ρ H xs args Φ hm hargs hw
  left
  refine ⟨run_callFunc hf args w, ?_⟩
  cases hb : fn.body with
  | none => have := hf.body; rw [hb] at this; cases this
  | some c =>
    unfold wFunC at hw
    cases hle : leb xs.length fn.ntmps with
    | false => rw [hle] at hw; cases hw
    | true =>
      rw [hle] at hw
      simp only [wFunBC, hb, wBodyC] at hw
      have hn := leb_le hle
      refine calls_of_wp hf.at_ hb ?_
      have hs : RS w S ρ ⟨padTo fn.ntmps xs, H⟩ { tmps := args ++ Array.replicate (fn.ntmps - args.size) undef, defers := [] } := by
        refine ⟨?_, ?_, hm, rfl⟩
        · simp [padTo_length, hargs.1]; omega
        · intro i x v hx hv
          rcases padTo_get _ _ i x hx with h | rfl
          · have hi := (List.getElem?_eq_some_iff.1 h).1
            rw [Array.getElem?_append_left (by rw [hargs.1]; exact hi)] at hv
            exact hargs.2 i x v h hv
          · exact .junk _ _
      refine wp_mono (code_soundC (w0 := w) (S0 := S) (ρ0 := ρ) (H0 := H) (fl := H.length) hte hΓ hmix c hw hs (Goes.refl w S ρ H (Nat.le_refl _))) ?_
      intro e a' w' hq
      have fin : ∀ s S' ρ', RS w' S' ρ' s a' → Goes w S ρ H w' S' ρ' s.H H.length → resK Φ s.H (resV (resAll te s.T s.H fn.resultTypes.toList fn.results.toList)) → a'.defers = [] ∧ ∃ v, (results fn a'.tmps).run P w' = .ok v w' ∧ GPost w S ρ H Φ v w' := by
        intro s S' ρ' h1 h2 h3
        refine ⟨h1.defers, ?_⟩
        cases hr : resV (resAll te s.T s.H fn.resultTypes.toList fn.results.toList) with
        | none => rw [hr] at h3; cases h3
        | some v =>
          rw [hr] at h3
          obtain ⟨x, k1, k2⟩ := results_sound (P := P) hte h1 fn hr
          exact ⟨x, k1, v, s.H, S', ρ', h3, h1.mem, k2, h2⟩
      cases e with
      | normal => obtain ⟨s, S', ρ', h1, h2, h3⟩ := hq; exact fin s S' ρ' h1 h2 h3
      | ret => obtain ⟨s, S', ρ', h1, h2, h3⟩ := hq; exact fin s S' ρ' h1 h2 h3
      | exit i => obtain ⟨s, S', ρ', h1, h2, h3⟩ := hq; exact h3.elim
      | _ => exact hq.elim

/-- A function whose formula follows of a contract on memory. -/
theorem gen_soundC {te : TE} (hte : TEok P te) {Γ : GE} (hΓ : Sound P Γ) (hmix : P.follows .mixedOrders = true) {f : FuncId} {fn : Func} (hf : IsFun P f fn) {G : GSpec} (hG : ∀ xs H Φ, G xs H Φ → wFunC te Γ fn xs H Φ) : GSound P f G :=
  fun w S ρ H xs args Φ hm hargs hw => fun_soundC hte hΓ hmix hf w S ρ H xs args Φ hm hargs (hG xs H Φ hw)

/-- A function under a contract on data. -/
theorem dat_soundC {te : TE} (hte : TEok P te) {Γ : GE} (hΓ : Sound P Γ) (hmix : P.follows .mixedOrders = true) {f : FuncId} {fn : Func} (hf : IsFun P f fn) {D : DSpec} (hD : ∀ xs Φ, D xs Φ → wFunC te Γ fn xs [] (datFin Φ)) : DSound P f D := by
  intro w S ρ xs args Φ hS hargs hd
  have hno : ∀ (ρ : Reg) k, ¬ Own ρ [] k := by rintro ρ k ⟨p, e, he, _⟩; simp at he
  have hm : RH w S ρ [] := ⟨by simp, by simp, fun k hk => ⟨hS k hk, hno ρ k⟩⟩
  refine CallRuns.mono (fun_soundC hte hΓ hmix hf w S ρ [] xs args _ hm hargs (hD xs Φ hd)) ?_
  rintro v w' ⟨r, H', S', ρ', h1, h2, h3, h4⟩
  unfold datFin at h1
  cases hr : rslvR H' r with
  | none => rw [hr] at h1; cases h1
  | some q =>
    obtain ⟨c, x⟩ := q
    rw [hr] at h1
    obtain ⟨hc, hΦ⟩ := condK_split h1
    refine ⟨x, .none, lent S' ρ' H', ρ', hΦ, trivial, ⟨by simp [entL], by simp [entL], fun k hk => ⟨?_, hno ρ' k⟩⟩, rslvR_rd h2 h3 hr hc 0, ?_⟩
    · rcases hk with hk | hk
      · exact (h2.stab k hk).1
      · exact h2.own_lt hk
    · refine ⟨h4.os, h4.tape, h4.output, h4.size, fun k hk _ => h4.keep k hk (hno ρ k), fun k hk => absurd hk (hno ρ' k), fun k hk => .inl (h4.up k hk), ?_, Nat.zero_le _, fun p hp => absurd hp (by omega)⟩
      rintro k (hk | hk)
      · rcases h4.down k hk with h | h | h
        · exact .inl h
        · exact absurd h (hno ρ k)
        · exact .inr (.inr h)
      · rcases h4.own k hk with h | h
        · exact absurd h (hno ρ k)
        · exact .inr (.inr h)
end
theorem ifB_t {A B : Prop} (h : A) : ifB true A B := h
theorem ifB_f {A B : Prop} (h : B) : ifB false A B := h
/-- A round ends: the next one's head. -/
theorem rc_next {fl : Nat} {I : Nat → St → Prop} {n : Nat} {Q : KontX} {s : St} (m : Nat) (h : m < n) (k : I m s) : roundC fl I n Q .normal s := ⟨m, s, h, k, ReT.refl fl s⟩
/-- Out of a loop, into what follows. -/
theorem rc_exit {fl : Nat} {I : Nat → St → Prop} {n i : Nat} {f : St → KontX → Prop} {Q : KontX} {s : St} (h : f s Q) : roundC fl I n (blkQ i (seqQ f Q)) (.exit i) s := by
  refine ⟨s, ReT.refl fl s, ?_⟩
  show exitQ i (seqQ f Q) s (eqb i i)
  rw [eqb_self]
  exact h
end Go.Rf
end
/-
  CONTRACTS ON MEMORY, part 1: a function that changes one variable of its caller's, and leaves nothing else behind.
-/
section
set_option linter.unusedVariables false
set_option linter.unusedSimpArgs false
namespace Go.Rf

/-- A variable that holds data alone. -/
def okE : Ent → Bool
  | .none => true
  | .var cs => closedAll cs
  | .arr .. => false
def okH : List Ent → Bool
  | [] => true
  | e :: H => andB (okE e) (okH H)
def keepV (Φ : AV → List Ent → Prop) (r : AV) (H0 : List Ent) : Rs (List AV) → Prop
  | some (c, cs) => condK c (Φ r (H0 ++ [.var cs]))
  | none => False
def keepW (Φ : AV → List Ent → Prop) (r : AV) (H0 H : List Ent) : Ent → Prop
  | .var cs => keepV Φ r H0 (rslvs H cs)
  | _ => False
/-- At the end of a function that may change the variable at place n. -/
def keepFin (n : Nat) (Φ : AV → List Ent → Prop) : AV → List Ent → Prop := fun r H => scalar r ∧ okH (takeL n H) = true ∧ keepW Φ r (takeL n H) H (H.getD n .none)

/-- What is stable, and the arrays of the call's own. -/
def lentA (S : Nat → Prop) (ρ : Reg) (H : List Ent) : Nat → Prop := fun k => S k ∨ ∃ p cl v sz cap es, H[p]? = some (.arr cl v sz cap es) ∧ live ρ p (.arr cl v sz cap es) ∧ (ρ p).blk = k

section
variable {P : Program} {w : World} {S : Nat → Prop} {ρ : Reg} {H : List Ent}

theorem okH_at : ∀ {H : List Ent}, okH H = true → ∀ (p : Nat) (e : Ent), H[p]? = some e → okE e = true
  | [], _, p, e, h => by simp at h
  | x :: H, hb, p, e, h => by
    obtain ⟨h1, h2⟩ := andB_true hb
    cases p with
    | zero => simp at h; subst h; exact h1
    | succ p => exact okH_at h2 p e (by simpa using h)
theorem closedAll_at : ∀ {L : List AV}, closedAll L = true → ∀ (i : Nat) (x : AV), L[i]? = some x → closed1 x = true
  | [], _, i, x, h => by simp at h
  | v :: L, hb, i, x, h => by
    obtain ⟨h1, h2⟩ := andB_true hb
    cases i with
    | zero => simp at h; subst h; exact h1
    | succ i => exact closedAll_at h2 i x (by simpa using h)
theorem takeL_take {α : Type} : ∀ (n : Nat) (l : List α), takeL n l = l.take n
  | 0, l => by simp [takeL]
  | n + 1, [] => by simp [takeL]
  | n + 1, x :: l => by simp [takeL, takeL_take n l]

theorem own_rowA (hm : RH w S ρ H) {q : Nat} {v sz : Nat} {cap : Option Nat} {es : List (List AV)} (hq : H[q]? = some (.arr true v sz cap es)) {A : Option Addr} {off len cap0 : Nat} (hle : off + len ≤ es.length) (hcap : len ≤ cap0) (hoc : off + cap0 = (ρ q).cap) (hA : 0 < cap0 → A = some ⟨(ρ q).blk, off * sz, none⟩) (n : Nat) :
    Rd w (lentA S ρ H) ρ n (.sl sz false ((es.drop off).take len)) (.slice A len cap0) := by
  have hent := hm.ent q _ hq
  have hl : ((es.drop off).take len).length = len := by simp; omega
  have e5 := hent.2.2.2.2.1
  have e6 := hent.2.2.2.2.2.1
  rcases Nat.eq_zero_or_pos len with h0 | h0
  · subst h0
    rw [List.take_zero]
    exact .sl _ sz false [] A 0 cap0 (fun _ _ => default) rfl (Nat.zero_le _) (by omega) (by simp) (by simp) (by intro i k hi; omega) (by intro h; omega) (by simp)
  · obtain ⟨cs, ty, k1, k2, k3, k4⟩ := hent.rows (by omega)
    have k5 := ((k4.drop off).take len)
    have k6 : RowsRd w (lentA S ρ H) ρ 0 sz ((es.drop off).take len) (((cs.toList.take (es.length * sz)).drop (off * sz)).take (len * sz)) := k5.mono (fun _ hk => ⟨.inl hk, rfl⟩) (Nat.le_refl _) (Newer.refl _ _)
    have := Rd.sl_of_rows (n := n) false k6 A cap0 (by rw [hl]; exact hcap) (by omega) (by simp) (fun _ => by
      refine ⟨_, hA (by omega), .inr ⟨q, _, _, _, _, _, hq, by show 0 < (ρ q).cap; omega, rfl⟩, fun j v hv => ?_⟩
      rw [List.getElem?_take] at hv
      split at hv
      · rw [List.getElem?_drop, List.getElem?_take] at hv
        split at hv
        · rw [Addr.add_lit, cell_of_row w _ _ cs ty _ k1]; simpa using hv
        · cases hv
      · cases hv)
    rwa [hl] at this

theorem rslv1_rdA (hm : RH w S ρ H) {a x : AV} {v : Value} {c : Option DP} (hv : Rd w S ρ H.length a v) (h : rslv1 H a = some (c, x)) (hc : condK c True) (n : Nat) : Rd w (lentA S ρ H) ρ n x v := by
  have lendA : ∀ {a : AV}, Rd w S ρ 0 a v → Rd w (lentA S ρ H) ρ n a v := fun h => h.mono (fun _ hk => ⟨.inl hk, rfl⟩) (Nat.zero_le _) (Newer.refl _ _)
  unfold rslv1 at h
  split at h
  · cases h; cases hv; exact .int _ _ _
  · cases h; cases hv; exact .bool _ _
  · cases h; cases hv; exact .str _ _
  · cases h; cases hv; exact .fn _ _
  · cases h
    exact lendA (hv.closed1 rfl).nf
  · rename_i q ver len
    cases hq : H.getD q .none with
    | none => rw [hq] at h; cases h
    | var => rw [hq] at h; cases h
    | arr cl v sz cap es =>
      rw [hq] at h
      simp only [contO, contR] at h
      cases cl with
      | false => cases h
      | true =>
        cases h
        simp only [condK] at hc
        obtain ⟨⟨rfl, rfl⟩, _⟩ := hc
        have hget := getD_some hq (by simp)
        cases hv with
        | own _ _ _ _ A cap0 hp hver hcp hA hr =>
          obtain ⟨k1, k2⟩ := hr (hm.ent q _ hget).1.symm
          have := own_rowA hm hget (A := A) (off := 0) (len := es.length) (cap0 := cap0) (by omega) hcp (by omega) (fun h => by rw [k2 h]; simp) n
          simpa using this
  · rename_i q ver off len
    cases hq : H.getD q .none with
    | none => rw [hq] at h; cases h
    | var => rw [hq] at h; cases h
    | arr cl v sz cap es =>
      rw [hq] at h
      simp only [contS, contR] at h
      cases cl with
      | false => cases h
      | true =>
        cases h
        simp only [condK] at hc
        obtain ⟨⟨rfl, hle⟩, _⟩ := hc
        have hget := getD_some hq (by simp)
        cases hv with
        | osub _ _ _ _ _ A cap0 hp hver hcp hA hr =>
          obtain ⟨k1, k2⟩ := hr (hm.ent q _ hget).1.symm
          have e3 := (hm.ent q _ hget).2.2.1
          exact own_rowA hm hget (A := A) (off := off) (len := len) (cap0 := cap0) hle hcp k1 (fun h => by rw [k2 h, e3]) n
  · cases h

theorem rslvs_rdA (hm : RH w S ρ H) : ∀ {cs ys : List AV} {c : Option DP}, rslvs H cs = some (c, ys) → condK c True → ys.length = cs.length ∧ ∀ (i : Nat) (y a : AV) (v : Value), ys[i]? = some y → cs[i]? = some a → Rd w S ρ H.length a v → ∀ n, Rd w (lentA S ρ H) ρ n y v
  | [], ys, c, h, _ => by cases h; exact ⟨rfl, by simp⟩
  | a :: cs, ys, c, h, hc => by
    simp only [rslvs] at h
    cases h1 : rslv1 H a with
    | none => rw [h1] at h; cases h
    | some p1 =>
      obtain ⟨c1, x1⟩ := p1
      cases h2 : rslvs H cs with
      | none => rw [h1, h2] at h; cases h
      | some p2 =>
        obtain ⟨c2, xs⟩ := p2
        rw [h1, h2] at h
        simp only [consR, Option.some.injEq, Prod.mk.injEq] at h
        obtain ⟨rfl, rfl⟩ := h
        have hc1 : condK c1 True ∧ condK c2 True := by
          cases c1 <;> cases c2 <;> simp_all [andOO, andO, condK]
        obtain ⟨k1, k2⟩ := rslvs_rdA hm h2 hc1.2
        refine ⟨by simp [k1], fun i y b v hy hb hv n => ?_⟩
        cases i with
        | zero => simp at hy hb; subst hy; subst hb; exact rslv1_rdA hm hv h1 hc1.1 n
        | succ i => exact k2 i y b v (by simpa using hy) (by simpa using hb) hv n

theorem keep_end (hm : RH w S ρ H) {n : Nat} (hok : okH (takeL n H) = true) {cs cs' : List AV} {c : Option DP} (hv : H[n]? = some (.var cs)) (hr : rslvs H cs = some (c, cs')) (hc : condK c True) {fl : Nat} (hfl : fl ≤ n + 1) :
    RH w (lentA S ρ H) ρ (takeL n H ++ [.var cs']) ∧ Goes w S ρ H w (lentA S ρ H) ρ (takeL n H ++ [.var cs']) fl := by
  have hlt := (List.getElem?_eq_some_iff.1 hv).1
  rw [takeL_take] at hok ⊢
  have hlen : (H.take n ++ [Ent.var cs']).length = n + 1 := by simp; omega
  obtain ⟨r1, r2⟩ := rslvs_rdA hm hr hc
  have hat : ∀ p e, (H.take n ++ [Ent.var cs'])[p]? = some e → (p < n ∧ H[p]? = some e ∧ okE e = true) ∨ (p = n ∧ e = .var cs') := by
    intro p e he
    rcases Nat.lt_trichotomy p n with hp | hp | hp
    · rw [List.getElem?_append_left (by simp; omega)] at he
      have := okH_at hok p e he
      rw [List.getElem?_take, if_pos hp] at he
      exact .inl ⟨hp, he, this⟩
    · subst hp
      rw [List.getElem?_append_right (by rw [List.length_take]; omega)] at he
      have h0 : p - (H.take p).length = 0 := by rw [List.length_take]; omega
      rw [h0] at he
      simp at he
      exact .inr ⟨rfl, he.symm⟩
    · rw [List.getElem?_eq_none (by rw [hlen]; omega)] at he
      cases he
  have hown : ∀ k, Own ρ (H.take n ++ [Ent.var cs']) k → ∃ p cells, H[p]? = some (.var cells) ∧ (ρ p).blk = k := by
    rintro k ⟨p, e, he, hl, hk⟩
    rcases hat p e he with ⟨_, h1, h2⟩ | ⟨rfl, rfl⟩
    · cases e with
      | none => cases hl
      | var cells => exact ⟨p, cells, h1, hk⟩
      | arr => cases h2
    · exact ⟨p, cs, hv, hk⟩
  have hown' : ∀ k, Own ρ (H.take n ++ [Ent.var cs']) k → Own ρ H k := fun k hk => by
    obtain ⟨p, cells, h1, h2⟩ := hown k hk
    exact ⟨p, _, h1, trivial, h2⟩
  refine ⟨⟨?_, ?_, ?_⟩, ⟨rfl, rfl, rfl, Nat.le_refl _, fun _ _ _ => rfl, fun k hk => .inl (hown' k hk), fun k hk => .inl hk, ?_, by rw [hlen]; exact hfl, Newer.refl _ _⟩⟩
  · intro p e he
    rcases hat p e he with ⟨hp, h1, h2⟩ | ⟨rfl, rfl⟩
    · have := hm.ent p e h1
      cases e with
      | none => exact this
      | arr => cases h2
      | var cells =>
        obtain ⟨k1, cs0, ty, k2, k3, k4, k5⟩ := this
        refine ⟨k1, cs0, ty, k2, k3, k4, fun i a v ha hv' => ?_⟩
        have hcl := closedAll_at h2 i a ha
        exact ((k5 i a v ha hv').closed1 hcl).mono (fun _ hk => ⟨.inl hk, rfl⟩) (Nat.zero_le _) (Newer.refl _ _)
    · obtain ⟨k1, cs0, ty, k2, k3, k4, k5⟩ := hm.ent p _ hv
      refine ⟨k1, cs0, ty, k2, by omega, k4, fun i y v hy hv' => ?_⟩
      have hi : i < cs.length := by have := (List.getElem?_eq_some_iff.1 hy).1; omega
      exact r2 i y _ v hy (List.getElem?_eq_getElem hi) (k5 i _ v (List.getElem?_eq_getElem hi) hv') _
  · intro p q e f he hf hle hlf hne
    have back : ∀ p e, (H.take n ++ [Ent.var cs'])[p]? = some e → live ρ p e → ∃ e', H[p]? = some e' ∧ live ρ p e' := by
      intro p e he hl
      rcases hat p e he with ⟨_, h1, _⟩ | ⟨rfl, rfl⟩
      · exact ⟨e, h1, hl⟩
      · exact ⟨_, hv, trivial⟩
    obtain ⟨e', he', hle'⟩ := back p e he hle
    obtain ⟨f', hf', hlf'⟩ := back q f hf hlf
    exact hm.apart p q e' f' he' hf' hle' hlf' hne
  · rintro k (hk | ⟨p, cl, v, sz, cap, es, h1, h2, h3⟩)
    · exact ⟨(hm.stab k hk).1, fun ho => (hm.stab k hk).2 (hown' k ho)⟩
    · refine ⟨hm.own_lt ⟨p, _, h1, h2, h3⟩, fun ho => ?_⟩
      obtain ⟨q, cells, g1, g2⟩ := hown k ho
      have hne : p ≠ q := by
        rintro rfl
        rw [h1] at g1
        cases g1
      exact hm.apart p q _ _ h1 g1 h2 trivial hne (by rw [h3, g2])
  · rintro k (hk | ⟨p, cl, v, sz, cap, es, h1, h2, h3⟩)
    · exact .inl hk
    · exact .inr (.inl ⟨p, _, h1, h2, h3⟩)

theorem scalarL_rd : ∀ {cs : List AV}, scalarL cs → ∀ (i : Nat) (a : AV) (v : Value), cs[i]? = some a → ∀ {w : World} {S : Nat → Prop} {ρ : Reg} {n : Nat}, Rd w S ρ n a v → ∀ {w' : World} {S' : Nat → Prop} {ρ' : Reg} {m : Nat}, Rd w' S' ρ' m a v
  | [], _, i, a, v, h, _, _, _, _, _ => by simp at h
  | c :: cs, hb, i, a, v, h, w, S, ρ, n, hr => by
    cases i with
    | zero =>
      simp at h; subst h
      have h1 := hb.1
      cases hr <;> simp only [scalar1] at h1 <;> constructor
    | succ i => exact scalarL_rd hb.2 i a v (by simpa using h) hr
theorem scalar_rd {r : AV} (hs : scalar r) {w : World} {S : Nat → Prop} {ρ : Reg} {n : Nat} {v : Value} (h : Rd w S ρ n r v) {w' : World} {S' : Nat → Prop} {ρ' : Reg} {m : Nat} : Rd w' S' ρ' m r v := by
  cases h with
  | tup _ cs vs hl h => exact .tup _ cs vs hl fun i a v ha hv => scalarL_rd hs i a v ha (h i a v ha hv)
  | int => exact .int _ _ _
  | bool => exact .bool _ _
  | str => exact .str _ _
  | _ => simp only [scalar] at hs

/-- A function that may change the variable at the last place of its caller's memory. -/
theorem gen_soundK {te : TE} (hte : TEok P te) {Γ : GE} (hΓ : Sound P Γ) (hmix : P.follows .mixedOrders = true) {f : FuncId} {fn : Func} (hf : IsFun P f fn) {G : GSpec}
    (hG : ∀ xs H Φ, G xs H Φ → ∃ n, H.length = n + 1 ∧ wFunC te Γ fn xs H (keepFin n Φ)) : GSound P f G := by
  intro w S ρ H xs args Φ hm hargs hw
  obtain ⟨n, hn, hw⟩ := hG xs H Φ hw
  refine CallRuns.mono (fun_soundC hte hΓ hmix hf w S ρ H xs args _ hm hargs hw) ?_
  rintro v w' ⟨r, H', S', ρ', ⟨h1, h1b, h1c⟩, h2, h3, h4⟩
  cases hv : H'.getD n .none with
  | none => rw [hv] at h1c; cases h1c
  | arr => rw [hv] at h1c; cases h1c
  | var cs =>
    rw [hv] at h1c
    simp only [keepW] at h1c
    cases hr : rslvs H' cs with
    | none => rw [hr] at h1c; cases h1c
    | some p =>
      obtain ⟨c, cs'⟩ := p
      rw [hr] at h1c
      obtain ⟨hc, hΦ⟩ := condK_split h1c
      have hget := getD_some hv (by simp)
      obtain ⟨k1, k2⟩ := keep_end h2 h1b hget hr hc (fl := n + 1) (Nat.le_refl _)
      refine ⟨r, _, _, ρ', hΦ, k1, scalar_rd h1 h3, ?_⟩
      have := h4.trans (k2.mono (by omega))
      rw [hn] at this ⊢
      exact this
end
/-- A loop with a block around it. -/
theorem loopC {fl : Nat} {body : St → KontX → Prop} {s : St} {i : Nat} {f : St → KontX → Prop} {Q : KontX} (keep : List Bool) (nh : Nat) (I : Nat → St → Prop) (h1 : fl ≤ nh) (h2 : ∃ n s', I n s' ∧ ReT fl s s')
    (h3 : ∀ n s1, I n s1 → body s1 (cutK (Q .ret) keep nh (roundC fl I n (blkQ i (seqQ f Q))))) : wLoopC fl body s (blkQ i (seqQ f Q)) := .inl ⟨keep, nh, I, h1, h2, h3⟩
section
variable {w : World} {S : Nat → Prop} {ρ : Reg} {H : List Ent}
/-- A variable's cells, told otherwise. -/
theorem RH.retell (hm : RH w S ρ H) {p : Nat} {cs cs' : List AV} (hp : H[p]? = some (.var cs)) (hl : cs'.length = cs.length)
    (hr : ∀ (i : Nat) (a a' : AV) (v : Value), cs[i]? = some a → cs'[i]? = some a' → Rd w S ρ H.length a v → Rd w S ρ H.length a' v) {fl : Nat} (hfl : fl ≤ H.length) :
    RH w S ρ (H.set p (.var cs')) ∧ Goes w S ρ H w S ρ (H.set p (.var cs')) fl := by
  have hlt := (List.getElem?_eq_some_iff.1 hp).1
  have hat : ∀ q e, (H.set p (.var cs'))[q]? = some e → (q = p ∧ e = .var cs') ∨ (q ≠ p ∧ H[q]? = some e) := by
    intro q e he
    by_cases hqp : p = q
    · subst hqp
      rw [List.getElem?_set_self hlt] at he
      exact .inl ⟨rfl, (Option.some.inj he).symm⟩
    · rw [List.getElem?_set_ne hqp] at he
      exact .inr ⟨fun h => hqp h.symm, he⟩
  have back : ∀ q e, (H.set p (.var cs'))[q]? = some e → live ρ q e → ∃ e', H[q]? = some e' ∧ live ρ q e' := by
    intro q e he hl
    rcases hat q e he with ⟨rfl, rfl⟩ | ⟨_, h⟩
    · exact ⟨_, hp, trivial⟩
    · exact ⟨e, h, hl⟩
  have hown : ∀ k, Own ρ (H.set p (.var cs')) k → Own ρ H k := by
    rintro k ⟨q, e, he, hl, hk⟩
    obtain ⟨e', h1, h2⟩ := back q e he hl
    exact ⟨q, e', h1, h2, hk⟩
  refine ⟨⟨?_, ?_, fun k hk => ⟨(hm.stab k hk).1, fun ho => (hm.stab k hk).2 (hown k ho)⟩⟩, ⟨rfl, rfl, rfl, Nat.le_refl _, fun _ _ _ => rfl, fun k hk => .inl (hown k hk), fun k hk => hk, fun k hk => .inl hk, by simpa using hfl, Newer.refl _ _⟩⟩
  · intro q e he
    rw [List.length_set]
    rcases hat q e he with ⟨rfl, rfl⟩ | ⟨_, h⟩
    · obtain ⟨k1, cs0, ty, k2, k3, k4, k5⟩ := hm.ent q _ hp
      refine ⟨k1, cs0, ty, k2, by omega, k4, fun i a' v ha hv => ?_⟩
      have hi : i < cs.length := by have := (List.getElem?_eq_some_iff.1 ha).1; omega
      exact hr i _ a' v (List.getElem?_eq_getElem hi) ha (k5 i _ v (List.getElem?_eq_getElem hi) hv)
    · exact hm.ent q e h
  · intro q r e f he hf hle hlf hne
    obtain ⟨e', h1, h2⟩ := back q e he hle
    obtain ⟨f', g1, g2⟩ := back r f hf hlf
    exact hm.apart q r e' f' h1 g1 h2 g2 hne
end
theorem setH_end (H : List Ent) (e : Ent) : setH H H.length e = H ++ [e] := by
  induction H with
  | nil => rfl
  | cons x H ih => exact congrArg (x :: ·) ih
/-- An empty row in a variable, that may be appended to, becomes an array of the call's own. -/
theorem reT_adoptV {fl : Nat} {T : List AV} {H : List Ent} (p j z sz : Nat) {cs : List AV} (hp : H[p]? = some (.var cs)) (hj : cs[j]? = some (.sl z true [])) (hz : 0 < sz) :
    ReT fl ⟨T, H⟩ ⟨T, H.set p (.var (cs.set j (.own H.length 1 0))) ++ [.arr true 1 sz none []]⟩ := by
  intro w S ρ a hs hl
  have hlt := (List.getElem?_eq_some_iff.1 hp).1
  let ρ' : Reg := fun p => if p = H.length then ⟨0, 0, 1, sz⟩ else ρ p
  have hρ' : ρ' H.length = ⟨0, 0, 1, sz⟩ := if_pos rfl
  have hch := hs.mem.change (w' := w) (S' := S) (ρ' := ρ') (p := H.length) (e' := .arr true 1 sz none []) (Nat.le_refl _)
    (fun q hq => if_neg hq) (fun h => absurd h (Nat.lt_irrefl _)) rfl rfl rfl (Nat.le_refl _) (fun _ _ _ => rfl)
    (fun h => by simp only [live, hρ'] at h; omega) (fun _ h => h) (fun _ h => .inl h)
    (by simp only [EntRd, hρ']
        refine ⟨trivial, by omega, trivial, hz, by simp, by decide, by simp, by simp, fun h => absurd h (by omega)⟩)
  rw [setH_end] at hch
  obtain ⟨h1, h2⟩ := hch
  have hlen : (H ++ [Ent.arr true 1 sz none []]).length = H.length + 1 := by simp
  have hp' : (H ++ [Ent.arr true 1 sz none []])[p]? = some (.var cs) := by rw [List.getElem?_append_left hlt]; exact hp
  obtain ⟨g1, g2⟩ := h1.retell (cs' := cs.set j (.own H.length 1 0)) hp' (by simp) (fun i a a' v ha ha' hv => by
    by_cases hji : j = i
    · subst hji
      rw [List.getElem?_set_self (List.getElem?_eq_some_iff.1 ha).1] at ha'
      cases ha'
      rw [hj] at ha
      cases ha
      cases hv with
      | sl _ _ _ _ A len cap cell hl hc hm hf hsz hcell hA h =>
        have hlen0 : len = 0 := by simpa using hl.symm
        have hcap := hf rfl
        subst hlen0
        subst hcap
        exact .own _ _ _ _ _ _ (by rw [hlen]; omega) (by rw [hρ']; exact Nat.le_refl _) (Nat.le_refl _) (by omega) (fun _ => by rw [hρ']; exact ⟨rfl, fun h => absurd h (by omega)⟩)
    · rw [List.getElem?_set_ne hji, ha] at ha'
      cases ha'
      exact hv) (fl := fl) (by rw [hlen]; exact Nat.le_succ_of_le hl)
  have hset : (H ++ [Ent.arr true 1 sz none []]).set p (.var (cs.set j (.own H.length 1 0))) = H.set p (.var (cs.set j (.own H.length 1 0))) ++ [.arr true 1 sz none []] := List.set_append_left _ _ hlt
  rw [hset] at g1 g2
  refine ⟨S, ρ', ⟨hs.size, ?_, g1, hs.defers⟩, (h2.mono hl).trans g2⟩
  intro i x v hx hv
  have := hs.tmp i x v hx hv
  exact this.mono (fun k hk => ⟨hk, rfl⟩) (by show H.length ≤ (H.set p (.var (cs.set j (.own H.length 1 0))) ++ [Ent.arr true 1 sz none []]).length; simp) h2.newer
/-- A loop, whatever is around it. -/
theorem loopQ {fl : Nat} {body : St → KontX → Prop} {s : St} {Q : KontX} (R : St → Prop) (hR : Q .ret = R) (keep : List Bool) (nh : Nat) (I : Nat → St → Prop) (h1 : fl ≤ nh) (h2 : ∃ n s', I n s' ∧ ReT fl s s')
    (h3 : ∀ n s1, I n s1 → body s1 (cutK R keep nh (roundC fl I n Q))) : wLoopC fl body s Q := .inl ⟨keep, nh, I, h1, h2, hR ▸ h3⟩
theorem rc_out {fl : Nat} {I : Nat → St → Prop} {n i : Nat} {Q : KontX} {s : St} (h : Q (.exit i) s) : roundC fl I n Q (.exit i) s := ⟨s, ReT.refl fl s, h⟩
theorem loopM {fl : Nat} {body : St → KontX → Prop} {s : St} {Q : KontX} (R : St → Prop) (hR : Q .ret = R) (keep : List Bool) (I : Nat → St → Prop) (h2 : ∃ n s', I n s' ∧ ReT fl s s')
    (h3 : ∀ n s1, I n s1 → body s1 (maskK R keep (roundC fl I n Q))) : wLoopC fl body s Q := .inr (.inr ⟨keep, I, h2, hR ▸ h3⟩)
theorem rc_to {fl : Nat} {I : Nat → St → Prop} {n : Nat} {Q : KontX} {s s' : St} (m : Nat) (h : m < n) (k : I m s') (hr : ReT fl s s') : roundC fl I n Q .normal s := ⟨m, s', h, k, hr⟩
end Go.Rf
end
/-
  CONTRACTS ON DATA, part 2: a function that hands one array of its own over, shown by its formula; arrays that are given away.
-/
section
set_option linter.unusedVariables false
set_option linter.unusedSimpArgs false
namespace Go.Rf
section
variable {P : Program}
/-- A function on data whose result has one array of its own, in cell i. -/
theorem own_sound {f : FuncId} {G : GSpec} (hg : GSound P f G) (N i : Nat) {D : DSpec}
    (hD : ∀ xs Φ, D xs Φ → ∃ cs H' x e, G xs [] (fun r2 H2 => r2 = .agg cs ∧ H2 = H') ∧ keepOut N i (some (.agg cs, H')) = some (x, e) ∧ Φ x e) : DSound P f D := by
  rintro w S ρ xs args Φ hS hargs hd
  obtain ⟨cs, H', x, e, hrun, hx, hΦ⟩ := hD xs Φ hd
  have hno : ∀ (ρ : Reg) k, ¬ Own ρ [] k := by rintro ρ k ⟨p, e, he, _⟩; simp at he
  have hm : RH w S ρ [] := ⟨by simp, by simp, fun k hk => ⟨hS k hk, hno ρ k⟩⟩
  simp only [keepOut] at hx
  cases hc : cs.getD i .junk with
  | own q v0 l0 =>
    rw [hc] at hx
    simp only [keepQ] at hx
    cases hq : H'.getD q .none with
    | none => rw [hq] at hx; cases hx
    | var => rw [hq] at hx; cases hx
    | arr cl v sz cap es =>
      rw [hq] at hx
      cases cl with
      | false => cases hx
      | true =>
        simp only [keepE] at hx
        cases hk : mapC (keep1 N q H') cs with
        | none => rw [hk] at hx; cases hx
        | some ys =>
          rw [hk] at hx
          simp only [keepEnd, Option.some.injEq, Prod.mk.injEq] at hx
          obtain ⟨rfl, rfl⟩ := hx
          have hget := getD_some hq (by simp)
          refine CallRuns.mono (hg w S ρ [] xs args (fun r2 H2 => r2 = .agg cs ∧ H2 = H') hm hargs hrun) ?_
          rintro u w' ⟨_, H', S', ρ', ⟨rfl, rfl⟩, h2, h3, h4⟩
          have h5 := lend_rh h2 hget
          have hsub : ∀ k, Own (fun _ => ρ' q) [Ent.arr true v sz cap es] k → Own ρ' H' k ∧ live ρ' q (.arr true v sz cap es) ∧ (ρ' q).blk = k := by
            rintro k ⟨r, e, he, hl, hk⟩
            cases r with
            | zero => simp at he; subst he; exact ⟨⟨q, _, hget, show 0 < (ρ' q).cap from hl, hk⟩, show 0 < (ρ' q).cap from hl, hk⟩
            | succ r => simp at he
          have hsub' : ∀ k, Own (fun _ => ρ' q) (entL (.arr true v sz none es)) k → Own ρ' H' k ∧ live ρ' q (.arr true v sz cap es) ∧ (ρ' q).blk = k := by
            rintro k ⟨r, e, he, hl, hk⟩
            cases r with
            | zero => simp [entL] at he; subst he; exact ⟨⟨q, _, hget, show 0 < (ρ' q).cap from hl, hk⟩, show 0 < (ρ' q).cap from hl, hk⟩
            | succ r => simp [entL] at he
          refine ⟨.agg ys, .arr true v sz none es, lentX S' ρ' H' (some q), fun _ => ρ' q, hΦ, rfl, ⟨?_, ?_, ?_⟩, ?_, ?_⟩
          · intro r e he
            cases r with
            | zero =>
              simp [entL] at he
              subst he
              obtain ⟨e1, e2, e3, e4, e5, e6, e7, e8, e9⟩ := h5.ent 0 _ rfl
              refine ⟨e1, e2, e3, e4, e5, e6, by simp, e8, fun hcp => ?_⟩
              obtain ⟨cs, ty, k1, k2, k3, k4⟩ := e9 hcp
              exact ⟨cs, ty, k1, k2, k3, fun i k e a v he ha hv => (k4 i k e a v he ha hv).mono (fun _ hk => ⟨.inl hk, rfl⟩) (Nat.le_refl _) (fun p hp => absurd hp (by simp))⟩
            | succ r => simp [entL] at he
          · intro r t e f hr ht _ _ hne
            cases r with
            | zero => cases t with
              | zero => exact absurd rfl hne
              | succ t => simp [entL] at ht
            | succ r => simp [entL] at hr
          · intro k hk
            rcases hk with hk | ⟨p, e, g1, g2, g3, g4⟩
            · exact ⟨(h2.stab k hk).1, fun ho => (h2.stab k hk).2 (hsub' k ho).1⟩
            · refine ⟨h2.own_lt ⟨p, e, g1, g3, g4⟩, fun ho => ?_⟩
              obtain ⟨_, o2, o3⟩ := hsub' k ho
              have hne : p ≠ q := by
                intro h
                subst h
                simp [notAv] at g2
              exact h2.apart p q e _ g1 hget g3 o2 hne (by rw [g4, o3])
          · cases h3 with
            | agg _ _ vs hl h1 hr' =>
              obtain ⟨k1, k2⟩ := mapC_get hk
              refine .agg _ ys vs (by omega) h1 fun j y z hy hz => ?_
              obtain ⟨b, hb, hfb⟩ := k2 j y hy
              exact keep1_rd h2 N q b y z hfb (hr' j b z hb hz)
          · refine ⟨h4.os, h4.tape, h4.output, h4.size, fun k hk _ => h4.keep k hk (hno ρ k), fun k hk => ?_, fun k hk => .inl (h4.up k hk), ?_, Nat.zero_le _, fun p hp => absurd hp (by omega)⟩
            · rcases h4.own k (hsub' k hk).1 with h | h
              · exact absurd h (hno ρ k)
              · exact .inr h
            · rintro k (hk | ⟨p, e, g1, g2, g3, g4⟩)
              · rcases h4.down k hk with h | h | h
                · exact .inl h
                · exact absurd h (hno ρ k)
                · exact .inr (.inr h)
              · rcases h4.own k ⟨p, e, g1, g3, g4⟩ with h | h
                · exact absurd h (hno ρ k)
                · exact .inr (.inr h)
  | _ => rw [hc] at hx; cases hx
theorem dat_soundO {te : TE} (hte : TEok P te) {Γ : GE} (hΓ : Sound P Γ) (hmix : P.follows .mixedOrders = true) {f : FuncId} {fn : Func} (hf : IsFun P f fn) (i : Nat) {D : DSpec}
    (hD : ∀ xs Φ, D xs Φ → ∃ cs H' x e, wFunC te Γ fn xs [] (fun r2 H2 => r2 = .agg cs ∧ H2 = H') ∧ keepOut 8 i (some (.agg cs, H')) = some (x, e) ∧ Φ x e) : DSound P f D :=
  own_sound (fun_soundC hte hΓ hmix hf) 8 i hD
/-- The array that is handed over becomes data. -/
theorem fn_of_fe {f : FuncId} {C : List AV → Prop} {g g' : List AV → AV} {h : List AV → Ent} (hs : SpecSound P f (.fe C g h)) (hg : ∀ xs, C xs → ∃ c, rslvR (entL (h xs)) (g xs) = some (c, g' xs) ∧ condK c True) : SpecSound P f (.fn C g') := by
  rintro w S ρ xs args Φ hS hargs ⟨hC, hd⟩
  have hno : ∀ (ρ : Reg) k, ¬ Own ρ [] k := by rintro ρ k ⟨p, e, he, _⟩; simp at he
  obtain ⟨c, hr, hc⟩ := hg xs hC
  refine CallRuns.mono (hs w S ρ xs args (fun r e => r = g xs ∧ e = h xs) hS hargs ⟨hC, rfl, rfl⟩) ?_
  rintro v w' ⟨r, e, S', ρ', ⟨rfl, rfl⟩, h2, h3, h4, h5⟩
  refine ⟨g' xs, .none, lent S' ρ' (entL (h xs)), ρ', hd, trivial, ⟨by simp [entL], by simp [entL], fun k hk => ⟨?_, hno ρ' k⟩⟩, rslvR_rd h3 h4 hr hc 0, ?_⟩
  · rcases hk with hk | hk
    · exact (h3.stab k hk).1
    · exact h3.own_lt hk
  · refine ⟨h5.os, h5.tape, h5.output, h5.size, fun k hk hn => h5.keep k hk (hno ρ' k), fun k hk => absurd hk (hno ρ' k), fun k hk => .inl (h5.up k hk), ?_, Nat.zero_le _, fun p hp => absurd hp (by omega)⟩
    rintro k (hk | hk)
    · rcases h5.down k hk with h | h | h
      · exact .inl h
      · exact absurd h (hno ρ' k)
      · exact .inr (.inr h)
    · rcases h5.own k hk with h | h
      · exact absurd h (hno ρ' k)
      · exact .inr (.inr h)
end
end Go.Rf
end
/-
  ARRAYS WITHIN ARRAYS: one that a row of another names becomes data.
-/
section
set_option linter.unusedVariables false
set_option linter.unusedSimpArgs false
namespace Go.Rf
section
variable {w : World} {S : Nat → Prop} {ρ : Reg} {H : List Ent}
/-- Of the cells of a row: they hold no place, or the array p, which becomes data. -/
def Froze (p v n sz : Nat) (ds : List (List AV)) (a a' : AV) : Prop := (a' = a ∧ closed1 a = true) ∨ (a = .own p v n ∧ a' = .sl sz false ds)

theorem freeze_in (hm : RH w S ρ H) {q p : Nat} (hne : p ≠ q) {cl : Bool} {v sz : Nat} {cap : Option Nat} {es es' : List (List AV)} (hq : H[q]? = some (.arr cl v sz cap es)) {v' sz' : Nat} {cap' : Option Nat} {ds : List (List AV)} (hp : H[p]? = some (.arr true v' sz' cap' ds))
    (hl : es'.length = es.length) (hrow : ∀ e ∈ es', e.length = sz)
    (hc : ∀ (i k : Nat) (e e' : List AV) (a a' : AV), es[i]? = some e → es'[i]? = some e' → e[k]? = some a → e'[k]? = some a' → Froze p v' ds.length sz' ds a a') {fl : Nat} (hfl : fl ≤ H.length) :
    ∃ S1 ρ1, RH w S1 ρ1 (setH (setH H p (dead v' sz')) q (.arr true v sz cap es')) ∧ Goes w S ρ H w S1 ρ1 (setH (setH H p (dead v' sz')) q (.arr true v sz cap es')) fl := by
  have hplt := (List.getElem?_eq_some_iff.1 hp).1
  have hqlt := (List.getElem?_eq_some_iff.1 hq).1
  obtain ⟨g1, g2⟩ := give_up hm hp
  have hpe := hm.ent p _ hp
  let S1 : Nat → Prop := fun k => S k ∨ (0 < (ρ p).cap ∧ k = (ρ p).blk)
  let ρ1 : Reg := upd ρ p ⟨0, 0, v' + 1, sz'⟩
  have hS1 : Later S S1 w w := fun k hk => ⟨.inl hk, rfl⟩
  have hown1 : ∀ k, Own ρ1 (setH H p (dead v' sz')) k → Own ρ H k ∧ (0 < (ρ p).cap → k ≠ (ρ p).blk) := by
    rintro k ⟨r, e, he, hle, hk⟩
    rw [setH_get H p _ r (Nat.le_of_lt hplt)] at he
    by_cases hrp : r = p
    · subst hrp
      rw [if_pos rfl] at he
      cases he
      simp [dead, live, ρ1, upd_same] at hle
    · rw [if_neg hrp] at he
      have hr1 : ρ1 r = ρ r := upd_other _ _ _ _ hrp
      have hle' : live ρ r e := (live_congr hr1).1 hle
      rw [hr1] at hk
      refine ⟨⟨r, e, he, hle', hk⟩, fun hcap hh => ?_⟩
      exact hm.apart r p e _ he hp hle' (show 0 < (ρ p).cap from hcap) hrp (by rw [hk, hh])
  have w1 : RH w S1 ρ1 (setH H p (dead v' sz')) := by
    refine ⟨fun r e he => (g1.ent r e he).mono rfl (fun _ => rfl) hS1 (Nat.le_refl _) (Newer.refl _ _), g1.apart, ?_⟩
    rintro k (hk | ⟨hk1, hk2⟩)
    · exact g1.stab k hk
    · refine ⟨?_, fun ho => (hown1 k ho).2 hk1 hk2⟩
      rw [hk2]
      exact hm.own_lt ⟨p, _, hp, hk1, rfl⟩
  have hq1 : (setH H p (dead v' sz'))[q]? = some (.arr cl v sz cap es) := by
    rw [setH_get H p _ q (Nat.le_of_lt hplt), if_neg (fun h => hne h.symm)]; exact hq
  have hρq : ρ1 q = ρ q := upd_other _ _ _ _ (fun h => hne h.symm)
  have hupd : upd ρ1 q (ρ1 q) = ρ1 := by
    funext r
    by_cases h : r = q
    · subst h; rw [upd_same]
    · rw [upd_other _ _ _ _ h]
  obtain ⟨f1, f2⟩ := w1.fill hq1 (ρ1 q) w (e' := .arr true v sz cap es') (.inl rfl) rfl rfl rfl rfl (Nat.le_refl _) (fun _ _ _ => rfl) (fun h => by rw [hupd] at h; exact h) (fun _ _ => by
    rw [hupd]
    obtain ⟨e1, e2, e3, e4, e5, e6, e7, e8, e9⟩ := hm.ent q _ hq
    refine ⟨by rw [hρq]; exact e1, e2, by rw [hρq]; exact e3, e4, by rw [hρq, hl]; exact e5, by rw [hρq]; exact e6, by rw [hρq]; exact e7, hrow, fun hcp => ?_⟩
    rw [hρq] at hcp ⊢
    obtain ⟨cs, ty, k1, k2, k3, k4⟩ := e9 hcp
    refine ⟨cs, ty, k1, k2, k3, fun i k e' a' x he' ha' hx => ?_⟩
    have hi : i < es.length := by have := (List.getElem?_eq_some_iff.1 he').1; omega
    have hei : es[i]? = some es[i] := List.getElem?_eq_getElem hi
    have hk : k < es[i].length := by
      rw [e8 _ (List.getElem_mem hi)]
      have := (List.getElem?_eq_some_iff.1 ha').1
      rw [hrow e' (List.mem_of_getElem? he')] at this
      exact this
    have hak : es[i][k]? = some es[i][k] := List.getElem?_eq_getElem hk
    have hrd := k4 i k _ _ x hei hak hx
    rcases hc i k _ e' _ a' hei he' hak ha' with ⟨rfl, hcl⟩ | ⟨ha, rfl⟩
    · exact (hrd.closed1 hcl).mono hS1 (Nat.le_refl _) (fun p hp => absurd hp (by simp))
    · rw [ha] at hrd
      cases hrd with
      | own _ _ _ _ A cap0 hp' hver hcp' hA hr =>
        obtain ⟨m1, m2⟩ := hr hpe.1.symm
        have := own_rowS hm (S1 := S1) (fun k hk => .inl hk) (q := p) (fun hcap => .inr ⟨hcap, rfl⟩) hp (A := A) (off := 0) (len := ds.length) (cap0 := cap0) (by omega) hcp' (by omega) (fun h => by rw [m2 h]; simp) 0 ρ1
        simpa using this)
  rw [hupd] at f1 f2
  have hlen1 : (setH H p (dead v' sz')).length = H.length := by rw [setH_length H p _ (Nat.le_of_lt hplt)]; omega
  refine ⟨S1, ρ1, f1, ⟨rfl, rfl, rfl, Nat.le_refl _, fun _ _ _ => rfl, fun k hk => ?_, fun k hk => .inl hk, ?_, ?_, ?_⟩⟩
  · rcases f2.own k hk with h | h
    · exact .inl (hown1 k h).1
    · exact .inr h
  · rintro k (hk | ⟨hk1, hk2⟩)
    · exact .inl hk
    · exact .inr (.inl ⟨p, _, hp, hk1, hk2.symm⟩)
  · rw [setH_length _ q _ (by rw [hlen1]; exact Nat.le_of_lt hqlt), hlen1]; omega
  · exact g2.newer.mono hfl
end
theorem reT_freezeIn {fl : Nat} {T : List AV} {H : List Ent} (q p : Nat) {cl : Bool} {v sz : Nat} {cap : Option Nat} {es es' : List (List AV)} {v' sz' : Nat} {cap' : Option Nat} {ds : List (List AV)} (hne : p ≠ q) (hq : H[q]? = some (.arr cl v sz cap es)) (hp : H[p]? = some (.arr true v' sz' cap' ds))
    (hl : es'.length = es.length) (hrow : ∀ e ∈ es', e.length = sz)
    (hc : ∀ (i k : Nat) (e e' : List AV) (a a' : AV), es[i]? = some e → es'[i]? = some e' → e[k]? = some a → e'[k]? = some a' → Froze p v' ds.length sz' ds a a') :
    ReT fl ⟨T, H⟩ ⟨T, setH (setH H p (dead v' sz')) q (.arr true v sz cap es')⟩ := by
  intro w S ρ a hs hfl
  have hplt := (List.getElem?_eq_some_iff.1 hp).1
  have hqlt := (List.getElem?_eq_some_iff.1 hq).1
  have hlen1 : (setH H p (dead v' sz')).length = H.length := by rw [setH_length H p _ (Nat.le_of_lt hplt)]; omega
  obtain ⟨S1, ρ1, r1, r2⟩ := freeze_in hs.mem hne hq hp hl hrow hc (fl := H.length) (Nat.le_refl _)
  refine ⟨S1, ρ1, ⟨hs.size, fun i x u hx hu => ?_, r1, hs.defers⟩, r2.mono hfl⟩
  have hlen : (setH (setH H p (dead v' sz')) q (.arr true v sz cap es')).length = H.length := by rw [setH_length _ q _ (by rw [hlen1]; exact Nat.le_of_lt hqlt), hlen1]; omega
  show Rd w S1 ρ1 (setH (setH H p (dead v' sz')) q (.arr true v sz cap es')).length x u
  rw [hlen]
  exact (hs.tmp i x u hx hu).mono (fun k hk => ⟨r2.up k hk, rfl⟩) (Nat.le_refl _) r2.newer
/-- The same, of the last row alone. -/
theorem reT_freezeLast {fl : Nat} {T : List AV} {H : List Ent} (q p : Nat) {cl : Bool} {v sz : Nat} {cap : Option Nat} {es : List (List AV)} {row : List AV} (row' : List AV) {v' sz' : Nat} {cap' : Option Nat} {ds : List (List AV)} (hne : p ≠ q) (hq : H[q]? = some (.arr cl v sz cap (es ++ [row]))) (hp : H[p]? = some (.arr true v' sz' cap' ds))
    (hes : ∀ e ∈ es, e.length = sz ∧ ∀ a ∈ e, closed1 a = true) (hrow : row'.length = sz)
    (hc : ∀ (k : Nat) (a a' : AV), row[k]? = some a → row'[k]? = some a' → Froze p v' ds.length sz' ds a a') :
    ReT fl ⟨T, H⟩ ⟨T, setH (setH H p (dead v' sz')) q (.arr true v sz cap (es ++ [row']))⟩ := by
  refine reT_freezeIn q p hne hq hp (by simp) (fun e he => ?_) (fun i k e e' a a' hi hi' hk hk' => ?_)
  · rcases List.mem_append.1 he with he | he
    · exact (hes e he).1
    · simp at he; subst he; exact hrow
  · rcases Nat.lt_or_ge i es.length with hlt | hge
    · rw [List.getElem?_append_left hlt] at hi hi'
      rw [hi] at hi'
      cases hi'
      rw [hk] at hk'
      cases hk'
      exact .inl ⟨rfl, (hes e (List.mem_of_getElem? hi)).2 a (List.mem_of_getElem? hk)⟩
    · rw [List.getElem?_append_right hge] at hi hi'
      have h0 : i - es.length = 0 := by
        have := (List.getElem?_eq_some_iff.1 hi).1
        simp at this
        exact this
      rw [h0] at hi hi'
      simp at hi hi'
      subst hi
      subst hi'
      exact hc k a a' hk hk'
/-- A loop left, behind it a block, then more. -/
theorem rc_exit2 {fl : Nat} {I : Nat → St → Prop} {n i j : Nat} {f : St → KontX → Prop} {Q : KontX} {s : St} (h : f s Q) : roundC fl I n (blkQ i (blkQ j (seqQ f Q))) (.exit i) s := by
  refine ⟨s, ReT.refl fl s, ?_⟩
  simp only [blkQ, eqb_self, exitQ, seqQ]
  exact h
section
variable {w : World} {S : Nat → Prop} {ρ : Reg} {H : List Ent}
/-- A variable's cells, told otherwise, by what stands in the memory. -/
theorem RH.retellC (hm : RH w S ρ H) {p : Nat} {cs cs' : List AV} (hp : H[p]? = some (.var cs)) (hl : cs'.length = cs.length)
    (hr : ∀ (cs0 : Array Value) (ty : TypeId), w.heap[(ρ p).blk]? = some (.cells cs0 ty) → ∀ (i : Nat) (a' : AV) (v : Value), cs'[i]? = some a' → cs0[i]? = some v → Rd w S ρ H.length a' v) {fl : Nat} (hfl : fl ≤ H.length) :
    RH w S ρ (H.set p (.var cs')) ∧ Goes w S ρ H w S ρ (H.set p (.var cs')) fl := by
  have hlt := (List.getElem?_eq_some_iff.1 hp).1
  have hat : ∀ q e, (H.set p (.var cs'))[q]? = some e → (q = p ∧ e = .var cs') ∨ (q ≠ p ∧ H[q]? = some e) := by
    intro q e he
    by_cases hqp : p = q
    · subst hqp
      rw [List.getElem?_set_self hlt] at he
      exact .inl ⟨rfl, (Option.some.inj he).symm⟩
    · rw [List.getElem?_set_ne hqp] at he
      exact .inr ⟨fun h => hqp h.symm, he⟩
  have back : ∀ q e, (H.set p (.var cs'))[q]? = some e → live ρ q e → ∃ e', H[q]? = some e' ∧ live ρ q e' := by
    intro q e he hl
    rcases hat q e he with ⟨rfl, rfl⟩ | ⟨_, h⟩
    · exact ⟨_, hp, trivial⟩
    · exact ⟨e, h, hl⟩
  have hown : ∀ k, Own ρ (H.set p (.var cs')) k → Own ρ H k := by
    rintro k ⟨q, e, he, hl, hk⟩
    obtain ⟨e', h1, h2⟩ := back q e he hl
    exact ⟨q, e', h1, h2, hk⟩
  refine ⟨⟨?_, ?_, fun k hk => ⟨(hm.stab k hk).1, fun ho => (hm.stab k hk).2 (hown k ho)⟩⟩, ⟨rfl, rfl, rfl, Nat.le_refl _, fun _ _ _ => rfl, fun k hk => .inl (hown k hk), fun k hk => hk, fun k hk => .inl hk, by simpa using hfl, Newer.refl _ _⟩⟩
  · intro q e he
    rw [List.length_set]
    rcases hat q e he with ⟨rfl, rfl⟩ | ⟨_, h⟩
    · obtain ⟨k1, cs0, ty, k2, k3, k4, k5⟩ := hm.ent q _ hp
      exact ⟨k1, cs0, ty, k2, by omega, k4, fun i a' v ha hv => hr cs0 ty k2 i a' v ha hv⟩
    · exact hm.ent q e h
  · intro q r e f he hf hle hlf hne
    obtain ⟨e', h1, h2⟩ := back q e he hle
    obtain ⟨f', g1, g2⟩ := back r f hf hlf
    exact hm.apart q r e' f' h1 g1 h2 g2 hne
/-- An array that a variable names becomes data. -/
theorem freeze_var (hm : RH w S ρ H) {p q j : Nat} {cs : List AV} {v sz : Nat} {cap : Option Nat} {es : List (List AV)} (hp : H[p]? = some (.var cs)) (hj : cs[j]? = some (.own q v es.length)) (hq : H[q]? = some (.arr true v sz cap es))
    (hcl : ∀ (i : Nat) (a : AV), i ≠ j → cs[i]? = some a → closed1 a = true) {fl : Nat} (hfl : fl ≤ H.length) :
    ∃ S1 ρ1, RH w S1 ρ1 ((setH H q (dead v sz)).set p (.var (cs.set j (.sl sz false es)))) ∧ Goes w S ρ H w S1 ρ1 ((setH H q (dead v sz)).set p (.var (cs.set j (.sl sz false es)))) fl := by
  have hqlt := (List.getElem?_eq_some_iff.1 hq).1
  have hne : p ≠ q := fun h => by subst h; rw [hp] at hq; cases hq
  obtain ⟨S1, g1, g2, g3, g4⟩ := kill_one hm hq
  have hlen : (setH H q (dead v sz)).length = H.length := by rw [setH_length H q _ (Nat.le_of_lt hqlt)]; omega
  have hp1 : (setH H q (dead v sz))[p]? = some (.var cs) := by rw [setH_get H q _ p (Nat.le_of_lt hqlt), if_neg hne]; exact hp
  have hρ : (upd ρ q ⟨0, 0, v + 1, sz⟩) p = ρ p := upd_other _ _ _ _ hne
  obtain ⟨r1, r2⟩ := g1.retellC (cs' := cs.set j (.sl sz false es)) hp1 (by simp) (fun cs0 ty hw i a' x ha' hx => by
    rw [hρ] at hw
    obtain ⟨k1, cs1, ty1, k2, k3, k4, k5⟩ := hm.ent p _ hp
    rw [hw] at k2
    cases k2
    by_cases hij : j = i
    · subst hij
      rw [List.getElem?_set_self (List.getElem?_eq_some_iff.1 hj).1] at ha'
      cases ha'
      have hrd := k5 _ _ x hj hx
      cases hrd with
      | own _ _ _ _ A cap0 hp' hver hcp' hA hr =>
        obtain ⟨m1, m2⟩ := hr (hm.ent q _ hq).1.symm
        have := own_rowS hm (S1 := S1) g3 (q := q) g4 hq (A := A) (off := 0) (len := es.length) (cap0 := cap0) (by omega) hcp' (by omega) (fun h => by rw [m2 h]; simp) (setH H q (dead v sz)).length (upd ρ q ⟨0, 0, v + 1, sz⟩)
        simpa using this
    · rw [List.getElem?_set_ne hij] at ha'
      have hc := hcl i a' (fun h => hij h.symm) ha'
      exact ((k5 i a' x ha' hx).closed1 hc).mono (fun k hk => ⟨g3 k hk, rfl⟩) (Nat.zero_le _) (fun p hp => absurd hp (by simp))) (fl := H.length) (by rw [hlen]; exact Nat.le_refl _)
  exact ⟨S1, _, r1, (g2.trans r2).mono hfl⟩
end
theorem reT_freezeV {fl : Nat} {T : List AV} {H : List Ent} (p q j : Nat) {cs : List AV} {v sz : Nat} {cap : Option Nat} {es : List (List AV)} (hp : H[p]? = some (.var cs)) (hj : cs[j]? = some (.own q v es.length)) (hq : H[q]? = some (.arr true v sz cap es))
    (hcl : ∀ (i : Nat) (a : AV), i ≠ j → cs[i]? = some a → closed1 a = true) :
    ReT fl ⟨T, H⟩ ⟨T, (setH H q (dead v sz)).set p (.var (cs.set j (.sl sz false es)))⟩ := by
  intro w S ρ a hs hfl
  have hqlt := (List.getElem?_eq_some_iff.1 hq).1
  have hlen : ((setH H q (dead v sz)).set p (.var (cs.set j (.sl sz false es)))).length = H.length := by rw [List.length_set, setH_length H q _ (Nat.le_of_lt hqlt)]; omega
  obtain ⟨S1, ρ1, r1, r2⟩ := freeze_var hs.mem hp hj hq hcl (fl := H.length) (Nat.le_refl _)
  refine ⟨S1, ρ1, ⟨hs.size, fun i x u hx hu => ?_, r1, hs.defers⟩, r2.mono hfl⟩
  show Rd w S1 ρ1 ((setH H q (dead v sz)).set p (.var (cs.set j (.sl sz false es)))).length x u
  rw [hlen]
  exact (hs.tmp i x u hx hu).mono (fun k hk => ⟨r2.up k hk, rfl⟩) (Nat.le_refl _) r2.newer
/-- A loop left, the state told otherwise. -/
theorem rc_exitTo {fl : Nat} {I : Nat → St → Prop} {n i : Nat} {f : St → KontX → Prop} {Q : KontX} {s : St} (s' : St) (hr : ReT fl s s') (h : f s' Q) : roundC fl I n (blkQ i (seqQ f Q)) (.exit i) s := by
  refine ⟨s', hr, ?_⟩
  show exitQ i (seqQ f Q) s' (eqb i i)
  rw [eqb_self]
  exact h
end Go.Rf
end
