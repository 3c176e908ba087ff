/-
  RUNNING, part 6: from a run to what the statements ask.
-/
import Derived.Test.YtdojencjbmahpaaGreatDoorRhJ
import Derived.ProofKit
import Derived.OpenShut
import Derived.JoinedCond
set_option linter.unusedVariables false
set_option linter.unusedSimpArgs false
namespace Go.Rf

/-- All that was there is as it was. -/
structure Old (w w' : World) : Prop where
  os : w'.os = w.os
  output : w'.output = w.output
  size : w.heap.size ≤ w'.heap.size
  keep : ∀ k, k < w.heap.size → w'.heap[k]? = w.heap[k]?

theorem Old.kept {w w' : World} (h : Old w w') (may : MemPlace → Prop) : w.keptBut w' may := by
  refine ⟨h.os, h.output, fun i hi => ?_⟩
  rw [h.keep i hi]
  cases hx : w.heap[i]? with
  | none => rfl
  | some o =>
    cases o with
    | cells c t fr => exact ⟨rfl, rfl, rfl, fun _ _ => rfl⟩
    | map es clock => exact .inr ⟨rfl, rfl⟩
    | _ => rfl
theorem Old.frozen {w w' : World} (h : Old w w') (a : Addr) (ha : a.block < w.heap.size) : w'.frozen? a = w.frozen? a := World.frozen?_of_block (h.keep a.block ha)

section
variable {P : Program}

theorem calls_of_runs {f : FuncId} {fn : Func} (hf : IsFun P f fn) {args : Array Value} {w : World} {R : Value → World → Prop} (h : CallRuns P f args w R) : Calls P f args w fun e w' => match e with | .returned v => R v w' | _ => False := by
  rcases h with ⟨_, h⟩ | ⟨v, w', h, _⟩
  · exact h
  · rw [run_callFunc hf args w] at h
    cases h

/-- A law whose arguments lead nowhere: it runs to 'true'. -/
theorem law_calls {f : FuncId} {fn : Func} (hf : IsFun P f fn) {g : List AV → Option (AV × Ent)} (hg : SpecSound P f (XS.spec (.dat g))) {xs : List AV} {e : Ent} (hx : g xs = some (.bool true, e)) {args : Array Value} {w : World}
    (hargs : ArgsRd w (fun _ => False) (fun _ => ⟨0, 0, 0, 0⟩) 0 xs args) : Calls P f args w fun e w' => e = .returned (.bool true) ∧ Old w w' := by
  refine Calls.mono (calls_of_runs hf (hg w (fun _ => False) (fun _ => ⟨0, 0, 0, 0⟩) xs args (fun r en => r = .bool true ∧ en = e) (fun k hk => hk.elim) hargs ⟨_, _, hx, rfl, rfl⟩)) ?_
  intro ex w' hq
  cases ex with
  | returned v =>
    obtain ⟨r, en, S', ρ', ⟨rfl, _⟩, h2, h3, h4, h5⟩ := hq
    cases h4
    have hno : ∀ k, ¬ Own ρ' [] k := by rintro k ⟨p, e, he, _⟩; simp at he
    exact ⟨rfl, h5.os, h5.output, h5.size, fun k hk => h5.keep k hk (hno k)⟩
  | _ => exact hq.elim

/-- What is known of a function without arguments: it is true. -/
def xTrue : List AV → Option (AV × Ent)
  | [] => some (.bool true, .none)
  | _ => none
theorem memo_true {f : FuncId} {g : List AV → Option (AV × Ent)} (hg : SpecSound P f (XS.spec (.dat g))) (hx : g [] = some (.bool true, .none)) : SpecSound P f (XS.spec (.dat xTrue)) := by
  rintro w S ρ xs args Φ hS hargs ⟨x, e, h, hΦ⟩
  unfold xTrue at h
  split at h
  · simp only [Option.some.injEq, Prod.mk.injEq] at h
    obtain ⟨rfl, rfl⟩ := h
    exact hg w S ρ [] args Φ hS hargs ⟨_, _, hx, hΦ⟩
  · cases h
def oneB (x : Option XS) (y : Option XS) : Bool → Option XS
  | true => x
  | false => y
/-- A table with one entry anew. -/
def withOne (k : FuncId) (s : XS) (X : XE) : XE := fun f => oneB (some s) (X f) (Nat.beq f k)
theorem withOne_sound {k : FuncId} {s : XS} {X : XE} (hs : SpecSound P k s.spec) (hX : Sound P X.env) : Sound P (withOne k s X).env := by
  intro f sp h
  unfold XE.env at h
  generalize hx : withOne k s X f = ox at h
  unfold withOne at hx
  cases hb : Nat.beq f k with
  | false => rw [hb] at hx; exact hX _ _ (env_of h hx)
  | true =>
    rw [hb] at hx
    subst hx
    cases h
    have := Nat.eq_of_beq_eq_true hb
    subst this
    exact hs

theorem args_one_int {w : World} {S : Nat → Prop} {ρ : Reg} {k : IntKind} {n : Int} : ArgsRd w S ρ 0 [.int k n] #[.int k n] := by
  refine ⟨rfl, fun i x v hx hv => ?_⟩
  cases i with
  | zero => simp at hx hv; subst hx; subst hv; exact .int _ _ _
  | succ i => simp at hx

open ChangeShapes ChangeAt in
theorem post_of_old {H : Type} {enc : TypeId × Value → H} {f : Func} {s : ChangeSpec} {apart fresh handsOn again : Bool} {W W' : World} {args : Array Value} {v : Value} {ds gs : List (DataW H)} {before pa pv : List MemPlace}
    (hW : DataW.Whole enc P f.params.toList s.vars apart W args.toList ds gs before)
    (hres : ∀ (b : Nat) (sp : Nat → Bool) (hd : Bool), DataW.TrodAll enc P W' b sp hd f.resultTypes.toList (v.resultList f.resultTypes.size) (s.fn H (ds ++ gs)).results [])
    (hargs : ∀ sp : Nat → Bool, (∀ p ∈ before, sp p.block = true) → DataW.TrodAll enc P W' 0 sp true f.params.toList args.toList (s.fn H (ds ++ gs)).args pa)
    (hvars : ∀ sp : Nat → Bool, (∀ p ∈ before, sp p.block = true) → DataW.TrodVars enc P W' sp s.vars (s.fn H (ds ++ gs)).vars pv)
    (hps : before = pa ++ pv) (ho : Old W W')
    (hok : ∀ (j : Nat) (t : TypeId) (r : Value), f.resultTypes[j]? = some t → (v.resultList f.resultTypes.size)[j]? = some r → Value.okWide P W' .any 0 t r) :
    s.post enc P f apart fresh handsOn again W args v W' := by
  have hlt : ∀ p ∈ before, p.block < W.heap.size := fun p hp => hW.lt p hp
  have hold : ∀ p ∈ before, (fun b => decide (b < W.heap.size)) p.block = true := fun p hp => by simpa using hlt p hp
  refine ⟨ds, gs, before, [], pa, pv, hW, hres _ _ _, hargs _ hold, hvars _ hold, World.keptBut_mono (fun p hp => ⟨hp, ?_⟩) (ho.kept _), fun _ => ?_⟩
  · rw [hps, List.mem_append] at hp
    exact Or.inr hp
  · obtain ⟨_, _, _, _, _, hz, hn⟩ := hW
    refine ⟨hok, _, _, ([] ++ pa) ++ pv, ⟨[] ++ pa, pv, trodAll_append (hargs _ (fun _ _ => rfl)) (hres _ _ _), hvars _ (fun _ _ => rfl), rfl, ?_, ?_⟩, ?_⟩
    · intro b off hp
      have hp' : MemPlace.cell b off ∈ before := by rw [hps]; simpa using hp
      rw [ho.frozen _ (hlt _ hp')]
      exact hz b off hp'
    · intro ha
      have := hn ha
      rw [hps] at this
      simpa using this
    · intro p hp _
      rw [hps]
      simpa using hp

end
end Go.Rf
