/-
  RUNNING, part 2: a function that is lent one array of the call's own, and gives one back.
-/
import Derived.Test.YtdojencjbmahpaaGreatDoorRhA
set_option linter.unusedVariables false
set_option linter.unusedSimpArgs false
namespace Go.Rf

/-- What comes back: an array of the call's own, or the front part of one. -/
def LendR (sz : Nat) (es' : List (List AV)) (r : AV) (H' : List Ent) : Prop :=
  ∃ p ver n cap' es'', H'[p]? = some (.arr true ver sz cap' es'') ∧ es''.take n = es' ∧ n = es'.length ∧ (r = .own p ver n ∨ r = .osub p ver 0 n)

def lendOut (H : List Ent) (q v sz : Nat) : Option (List (List AV)) → Option (AV × List Ent)
  | some es' => some (.own H.length 1 es'.length, setH (setH H q (dead v sz)) H.length (.arr true 1 sz none es'))
  | none => none
def lendE (F : List (List AV) → List AV → Option (List (List AV))) (sz q ver len : Nat) (rest : List AV) (H : List Ent) : Ent → Option (AV × List Ent)
  | .arr true v s none es => whenB (andB (Nat.beq v ver) (andB (Nat.beq len es.length) (Nat.beq s sz))) (lendOut H q v sz (F es rest))
  | _ => none
def lendN (F : List (List AV) → List AV → Option (List (List AV))) (sz q ver len : Nat) (rest : List AV) (H : List Ent) : Bool → Option (AV × List Ent)
  | false => lendE F sz q ver len rest H (H.getD q .none)
  | true => none
def xLend (F : List (List AV) → List AV → Option (List (List AV))) (sz : Nat) : List AV → List Ent → Option (AV × List Ent)
  | .own q ver len :: rest, H => lendN F sz q ver len rest H (namesA rest)
  | _, _ => none

section
variable {P : Program} {w : World} {S : Nat → Prop} {ρ : Reg} {H : List Ent}

theorem namesA_rd : ∀ {cs : List AV}, namesA cs = false → ∀ (n i : Nat) (a : AV) (v : Value), cs[i]? = some a → Rd w S ρ n a v → ∀ m (ρ' : Reg), Rd w S ρ' m a v
  | [], _, n, i, a, v, h, _ => by simp at h
  | c :: cs, hb, n, i, a, v, h, hr => by
    obtain ⟨h1, h2⟩ := orB_false hb
    cases i with
    | zero =>
      simp at h
      subst h
      intro m ρ'
      have h0 : Rd w S ρ 0 c v := by
        cases c with
        | agg cs =>
          cases hr with
          | agg _ _ vs hl h1' hr' => exact .agg _ _ vs hl h1' fun i a v ha hv => namesL_rd h1 n 0 i a v ha (hr' i a v ha hv)
        | int => exact hr.names1 rfl
        | bool => exact hr.names1 rfl
        | str => exact hr.names1 rfl
        | fn => exact hr.names1 rfl
        | sl => exact hr.names1 rfl
        | _ => simp [names] at h1
      exact h0.mono (Later.refl _ _) (Nat.zero_le _) (fun p hp => absurd hp (by omega))
    | succ i => exact namesA_rd h2 n i a v (by simpa using h) hr

theorem lend_sound {f : FuncId} {G : GSpec} (hG : GSound P f G) {F : List (List AV) → List AV → Option (List (List AV))} {sz : Nat}
    (hv : ∀ (v : Nat) (es es' : List (List AV)) (rest : List AV), F es rest = some es' → G (.own 0 v es.length :: rest) [.arr true v sz none es] (LendR sz es')) :
    SpecSound P f (XS.spec (.gen (xLend F sz))) := by
  rintro w S ρ H xs args Φ hm hargs ⟨r, H', hr, hΦ⟩
  unfold xLend at hr
  split at hr
  · rename_i q ver len rest
    cases hn : namesA rest with
    | true => rw [hn] at hr; cases hr
    | false =>
      rw [hn] at hr
      simp only [lendN] at hr
      cases hq : H.getD q .none with
      | none => rw [hq] at hr; cases hr
      | var => rw [hq] at hr; cases hr
      | arr cl v s c es =>
        rw [hq] at hr
        cases cl with
        | false => cases hr
        | true =>
          cases c with
          | some c => cases hr
          | none =>
          simp only [lendE] at hr
          obtain ⟨h1, h2⟩ := whenB_some hr
          obtain ⟨h3, h4⟩ := andB_true h1
          obtain ⟨h5, h6⟩ := andB_true h4
          have e1 : v = ver := Nat.eq_of_beq_eq_true h3
          have e2 : len = es.length := Nat.eq_of_beq_eq_true h5
          have e3 : s = sz := Nat.eq_of_beq_eq_true h6
          subst e1; subst e2; subst e3
          cases hF : F es rest with
          | none => rw [hF] at h2; cases h2
          | some es' =>
            rw [hF] at h2
            simp only [lendOut, Option.some.injEq, Prod.mk.injEq] at h2
            obtain ⟨rfl, rfl⟩ := h2
            have hget := getD_some hq (by simp)
            have hm1 := lend_rh hm hget
            have ha1 : ArgsRd w S (fun _ => ρ q) 1 (.own 0 v es.length :: rest) args := by
              refine ⟨by rw [hargs.1]; rfl, fun i x u hx hu => ?_⟩
              cases i with
              | zero =>
                simp at hx
                subst hx
                have := hargs.2 0 _ u rfl hu
                cases this with
                | own _ _ _ _ A cap0 hp hver hcp hA hr => exact .own _ _ _ _ _ _ Nat.one_pos hver hcp hA hr
              | succ i =>
                have hx' : rest[i]? = some x := by simpa using hx
                exact namesA_rd hn H.length i x u hx' (hargs.2 (i + 1) x u (by simpa using hx) hu) 1 _
            refine CallRuns.mono (hG w S (fun _ => ρ q) _ _ args _ hm1 ha1 (hv v es es' rest hF)) ?_
            rintro u w' ⟨r, H', S', ρ', ⟨p, ver', n, cap', es'', hp, hes, hn', hr'⟩, h6, h7, h8⟩
            have hx : Rd w' S' ρ' H'.length (.own p ver' n) u ∨ Rd w' S' ρ' H'.length (.osub p ver' 0 n) u := by
              rcases hr' with rfl | rfl
              · exact .inl h7
              · exact .inr h7
            obtain ⟨ρ'', g1, g2, g3⟩ := after_lend hm hget h6 h8 hp hes.symm hx
            exact ⟨_, _, S', ρ'', hΦ, g1, by rw [← hn']; exact g3, g2⟩
  · cases hr

end
end Go.Rf
