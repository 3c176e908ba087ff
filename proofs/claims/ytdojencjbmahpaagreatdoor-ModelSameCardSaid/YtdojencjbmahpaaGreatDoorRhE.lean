/-
  RUNNING, part 5: a function on data that hands one array of its own over with its result.
-/
import Derived.Test.YtdojencjbmahpaaGreatDoorRhD
set_option linter.unusedVariables false
set_option linter.unusedSimpArgs false
namespace Go.Rf

def keepSame (N : Nat) (q : Nat) (H : List Ent) (v len q' : Nat) : Bool → Option AV
  | true => some (.own 0 v len)
  | false => deepC (some q) N H (.own q' v len)
def keep1 (N : Nat) (q : Nat) (H : List Ent) : AV → Option AV
  | .own q' v len => keepSame N q H v len q' (Nat.beq q' q)
  | a => deepC (some q) N H a
def keepEnd (v sz : Nat) (es : List (List AV)) : Option (List AV) → Option (AV × Ent)
  | some ys => some (.agg ys, .arr true v sz none es)
  | none => none
def keepE (N q : Nat) (H : List Ent) (cs : List AV) : Ent → Option (AV × Ent)
  | .arr true v sz _ es => keepEnd v sz es (mapC (keep1 N q H) cs)
  | _ => none
def keepQ (N : Nat) (H : List Ent) (cs : List AV) : AV → Option (AV × Ent)
  | .own q _ _ => keepE N q H cs (H.getD q .none)
  | _ => none
def keepOut (N i : Nat) : Option (AV × List Ent) → Option (AV × Ent)
  | some (.agg cs, H) => keepQ N H cs (cs.getD i .junk)
  | _ => none
def datKeep (N i : Nat) (g : List AV → List Ent → Option (AV × List Ent)) (xs : List AV) : Option (AV × Ent) := keepOut N i (g xs [])

section
variable {P : Program} {w : World} {S : Nat → Prop} {ρ : Reg} {H : List Ent}

theorem keep1_rd (hm : RH w S ρ H) (N q : Nat) (a x : AV) (v : Value) (h : keep1 N q H a = some x) (hv : Rd w S ρ H.length a v) : Rd w (lentX S ρ H (some q)) (fun _ => ρ q) 1 x v := by
  have hdeep : deepC (some q) N H a = some x → Rd w (lentX S ρ H (some q)) (fun _ => ρ q) 1 x v := fun h =>
    (deepC_rd (some q) hm N a x v h hv 0).mono (Later.refl _ _) (Nat.zero_le _) (fun p hp => absurd hp (by omega))
  unfold keep1 at h
  split at h
  · rename_i q' ver len
    cases hb : Nat.beq q' q with
    | false => rw [hb] at h; exact hdeep h
    | true =>
      rw [hb] at h
      have := Nat.eq_of_beq_eq_true hb
      subst this
      simp only [keepSame, Option.some.injEq] at h
      subst h
      cases hv with
      | own _ _ _ _ A cap0 hp hver hcp hA hr => exact .own _ _ _ _ _ _ Nat.one_pos hver hcp hA hr
  · exact hdeep h

theorem datKeep_sound {f : FuncId} {g : List AV → List Ent → Option (AV × List Ent)} (hg : SpecSound P f (XS.spec (.gen g))) (N i : Nat) : SpecSound P f (XS.spec (.dat (datKeep N i g))) := by
  rintro w S ρ xs args Φ hS hargs ⟨x, e, hx, hΦ⟩
  have hno : ∀ (ρ : Reg) k, ¬ Own ρ [] k := by rintro ρ k ⟨p, e, he, _⟩; simp at he
  have hm : RH w S ρ [] := ⟨by simp, by simp, fun k hk => ⟨hS k hk, hno ρ k⟩⟩
  unfold datKeep at hx
  cases hr : g xs [] with
  | none => rw [hr] at hx; cases hx
  | some p =>
    obtain ⟨r, H'⟩ := p
    rw [hr] at hx
    cases r with
    | agg cs =>
      simp only [keepOut] at hx
      cases hc : cs.getD i .junk with
      | own q v0 l0 =>
        rw [hc] at hx
        simp only [keepQ] at hx
        cases hq : H'.getD q .none with
        | none => rw [hq] at hx; cases hx
        | var => rw [hq] at hx; cases hx
        | arr cl v sz cap es =>
          rw [hq] at hx
          cases cl with
          | false => cases hx
          | true =>
            simp only [keepE] at hx
            cases hk : mapC (keep1 N q H') cs with
            | none => rw [hk] at hx; cases hx
            | some ys =>
              rw [hk] at hx
              simp only [keepEnd, Option.some.injEq, Prod.mk.injEq] at hx
              obtain ⟨rfl, rfl⟩ := hx
              have hget := getD_some hq (by simp)
              refine CallRuns.mono (hg w S ρ [] xs args (fun r2 H2 => r2 = .agg cs ∧ H2 = H') hm hargs ⟨_, H', hr, rfl, rfl⟩) ?_
              rintro u w' ⟨_, H', S', ρ', ⟨rfl, rfl⟩, h2, h3, h4⟩
              have h5 := lend_rh h2 hget
              have hsub : ∀ k, Own (fun _ => ρ' q) [Ent.arr true v sz cap es] k → Own ρ' H' k ∧ live ρ' q (.arr true v sz cap es) ∧ (ρ' q).blk = k := by
                rintro k ⟨r, e, he, hl, hk⟩
                cases r with
                | zero => simp at he; subst he; exact ⟨⟨q, _, hget, show 0 < (ρ' q).cap from hl, hk⟩, show 0 < (ρ' q).cap from hl, hk⟩
                | succ r => simp at he
              have hsub' : ∀ k, Own (fun _ => ρ' q) (entL (.arr true v sz none es)) k → Own ρ' H' k ∧ live ρ' q (.arr true v sz cap es) ∧ (ρ' q).blk = k := by
                rintro k ⟨r, e, he, hl, hk⟩
                cases r with
                | zero => simp [entL] at he; subst he; exact ⟨⟨q, _, hget, show 0 < (ρ' q).cap from hl, hk⟩, show 0 < (ρ' q).cap from hl, hk⟩
                | succ r => simp [entL] at he
              refine ⟨.agg ys, .arr true v sz none es, lentX S' ρ' H' (some q), fun _ => ρ' q, hΦ, rfl, ⟨?_, ?_, ?_⟩, ?_, ?_⟩
              · intro r e he
                cases r with
                | zero =>
                  simp [entL] at he
                  subst he
                  obtain ⟨e1, e2, e3, e4, e5, e6, e7, e8, e9⟩ := h5.ent 0 _ rfl
                  refine ⟨e1, e2, e3, e4, e5, e6, by simp, e8, fun hcp => ?_⟩
                  obtain ⟨cs, ty, k1, k2, k3, k4⟩ := e9 hcp
                  exact ⟨cs, ty, k1, k2, k3, fun i k e a v he ha hv => (k4 i k e a v he ha hv).mono (fun _ hk => ⟨.inl hk, rfl⟩) (Nat.le_refl _) (fun p hp => absurd hp (by simp))⟩
                | succ r => simp [entL] at he
              · intro r t e f hr ht _ _ hne
                cases r with
                | zero => cases t with
                  | zero => exact absurd rfl hne
                  | succ t => simp [entL] at ht
                | succ r => simp [entL] at hr
              · intro k hk
                rcases hk with hk | ⟨p, e, g1, g2, g3, g4⟩
                · exact ⟨(h2.stab k hk).1, fun ho => (h2.stab k hk).2 (hsub' k ho).1⟩
                · refine ⟨h2.own_lt ⟨p, e, g1, g3, g4⟩, fun ho => ?_⟩
                  obtain ⟨_, o2, o3⟩ := hsub' k ho
                  have hne : p ≠ q := by
                    intro h
                    subst h
                    simp [notAv] at g2
                  exact h2.apart p q e _ g1 hget g3 o2 hne (by rw [g4, o3])
              · cases h3 with
                | agg _ _ vs hl h1 hr' =>
                  obtain ⟨k1, k2⟩ := mapC_get hk
                  refine .agg _ ys vs (by omega) h1 fun j y z hy hz => ?_
                  obtain ⟨b, hb, hfb⟩ := k2 j y hy
                  exact keep1_rd h2 N q b y z hfb (hr' j b z hb hz)
              · refine ⟨h4.os, h4.tape, h4.output, h4.size, fun k hk _ => h4.keep k hk (hno ρ k), fun k hk => ?_, fun k hk => .inl (h4.up k hk), ?_, Nat.zero_le _, fun p hp => absurd hp (by omega)⟩
                · rcases h4.own k (hsub' k hk).1 with h | h
                  · exact absurd h (hno ρ k)
                  · exact .inr h
                · rintro k (hk | ⟨p, e, g1, g2, g3, g4⟩)
                  · rcases h4.down k hk with h | h | h
                    · exact .inl h
                    · exact absurd h (hno ρ k)
                    · exact .inr (.inr h)
                  · rcases h4.own k ⟨p, e, g1, g3, g4⟩ with h | h
                    · exact absurd h (hno ρ k)
                    · exact .inr (.inr h)
      | _ => rw [hc] at hx; cases hx
    | _ => cases hx

noncomputable def fKeep (i : Nat) (te : TE) (X : XE) (N : Nat) (fn : Func) : List AV → Option (AV × Ent) := datKeep 8 i (fFun te X N fn)
theorem fKeep_sound (i : Nat) {te : TE} (hte : TEok P te) {X : XE} (hX : Sound P X.env) (hmix : P.follows .mixedOrders = true) {f : FuncId} {fn : Func} (hf : IsFun P f fn) (hst : codeStat (fn.body.getD .skip) = true) (N : Nat) :
    SpecSound P f (XS.spec (.dat (fKeep i te X N fn))) := datKeep_sound (fGen_sound hte hX hmix hf hst N) 8 i

end
end Go.Rf
