/-
  LIBRARY FUNCTIONS, part 1: slices.Clone: what comes back is an array of the call's own.
-/
import Derived.Test.YtdojencjbmahpaaGreatDoorRfZ
set_option linter.unusedVariables false
set_option linter.unusedSimpArgs false
namespace Go.Rf

def roomB (n bytes : Nat) : Bool := decide (n * bytes ≤ 140737488355328)
def xClone (sz bytes : Nat) : List AV → List Ent → Option (AV × List Ent)
  | [.sl z _ es], H => whenB (andB (eqb z sz) (roomB es.length bytes)) (some (.own H.length 1 es.length, setH H H.length (.arr true 1 sz none es)))
  | _, _ => none

section
variable {P : Program} {w : World} {S : Nat → Prop} {ρ : Reg} {H : List Ent}

/-- An empty slice that nobody can append within is an empty array of the call's own. -/
theorem promote (hm : RH w S ρ H) {n sz : Nat} (hsz : 0 < sz) {v : Value} (hv : Rd w S ρ n (.sl sz true []) v) :
    ∃ ρ', RH w S ρ' (setH H H.length (.arr true 1 sz none [])) ∧ Goes w S ρ H w S ρ' (setH H H.length (.arr true 1 sz none [])) H.length ∧ Rd w S ρ' (setH H H.length (.arr true 1 sz none [])).length (.own H.length 1 0) v := by
  have key := hm.fresh (Fresh.end H) w ⟨0, 0, 1, sz⟩ (.arr true 1 sz none []) rfl rfl rfl rfl (Nat.le_refl _) (fun _ _ => rfl) (fun h => by simp [live, upd_same] at h)
    (fun hS hN hl' => EntRd.of_rows (by rw [upd_same]) Nat.one_pos (by rw [upd_same]) hsz (by simp) (by rw [upd_same]; simp [maxLen]) (by simp) (by simp) (by intro h; rw [upd_same] at h; simp at h))
  refine ⟨_, key.1, key.2, ?_⟩
  cases hv with
  | sl _ _ _ _ A len cap cell hl hc hx hfr hsz' hcell hA hr =>
    have h0 : len = 0 := by simpa using hl.symm
    have h1 : cap = len := hfr rfl
    subst h0
    subst h1
    refine .own _ _ _ _ _ _ ?_ ?_ (Nat.le_refl _) (fun h => by simp at h) ?_
    · rw [setH_length H _ _ (Nat.le_refl _)]; omega
    · rw [upd_same]; exact Nat.le_refl _
    · intro _; rw [upd_same]; exact ⟨rfl, fun h => by simp at h⟩

theorem clone_sound {te : TE} (hte : TEok P te) (hmix : P.follows .mixedOrders = true) {f : FuncId} {fn : Func} (hf : IsFun P f fn) {sz bytes : Nat} (hsz : 0 < sz)
    (hv : ∀ (fr : Bool) (es : List (List AV)) (H : List Ent) (Φ : AV → List Ent → Prop), wFun te (fun _ => none) fn [.sl sz fr es] H Φ =
      (∀ b : Bool, (b = true → es = []) → ifB b (Φ (.sl sz true []) H) (((fits sz sz es = true ∧ fits sz sz [] = true) ∧ (([] : List (List AV)) = [] ∨ es ≠ []) ∧ room (0 + es.length) bytes) ∧ Φ (.own H.length 1 (0 + es.length)) (setH H H.length (.arr true 1 sz none ([] ++ es)))))) :
    SpecSound P f (XS.spec (.gen (xClone sz bytes))) := by
  intro w S ρ H xs args Φ hm hargs hw
  obtain ⟨r, H', hx, hΦ⟩ := hw
  unfold xClone at hx
  split at hx
  · rename_i z fr es
    obtain ⟨h1, h2⟩ := whenB_some hx
    obtain ⟨h3, h4⟩ := andB_true h1
    have := eqb_eq h3; subst this
    simp only [Option.some.injEq, Prod.mk.injEq] at h2
    obtain ⟨rfl, rfl⟩ := h2
    have hroom : room es.length bytes := of_decide_eq_true h4
    have hfit : fits z z es = true := by
      cases es
      · rfl
      · have : ∀ n, eqb n n = true := by intro n; induction n with | zero => rfl | succ n ih => exact ih
        exact this z
    have hg := fun_sound hte (Γ := fun _ => none) (by intro f sp h; cases h) hmix hf w S ρ H [.sl z fr es] args
      (fun r H' => (es = [] ∧ r = .sl z true [] ∧ H' = H) ∨ (r = .own H.length 1 es.length ∧ H' = setH H H.length (.arr true 1 z none es))) hm hargs (by
        rw [hv]
        intro b hb
        cases b with
        | true => exact .inl ⟨hb rfl, rfl, rfl⟩
        | false => exact ⟨⟨⟨hfit, rfl⟩, .inl rfl, by rw [Nat.zero_add]; exact hroom⟩, .inr ⟨by rw [Nat.zero_add], rfl⟩⟩)
    refine CallRuns.mono hg ?_
    rintro v w' ⟨r, H', S', ρ', h5, h6, h7, h8⟩
    rcases h5 with ⟨rfl, rfl, rfl⟩ | ⟨rfl, rfl⟩
    · obtain ⟨ρ'', k1, k2, k3⟩ := promote h6 hsz h7
      exact ⟨_, _, S', ρ'', hΦ, k1, k3, h8.trans k2⟩
    · exact ⟨_, _, S', ρ', hΦ, h6, h7, h8⟩
  · cases hx

end
end Go.Rf
