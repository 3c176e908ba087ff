/-
  LIBRARY FUNCTIONS, part 2: an array of the call's own under another place.
-/
import Derived.Test.YtdojencjbmahpaaGreatDoorRgA
set_option linter.unusedVariables false
set_option linter.unusedSimpArgs false
namespace Go.Rf

/-- A place that is given up: an empty array of the next version. -/
def dead (v sz : Nat) : Ent := .arr true (v + 1) sz none []

section
variable {P : Program} {w : World} {S : Nat → Prop} {ρ : Reg} {H : List Ent}

/-- A place is given up. -/
theorem give_up (hm : RH w S ρ H) {q : Nat} {cl : Bool} {v sz : Nat} {cap : Option Nat} {es : List (List AV)} (hq : H[q]? = some (.arr cl v sz cap es)) :
    RH w S (upd ρ q ⟨0, 0, v + 1, sz⟩) (setH H q (dead v sz)) ∧ Goes w S ρ H w S (upd ρ q ⟨0, 0, v + 1, sz⟩) (setH H q (dead v sz)) H.length := by
  have hent := hm.ent q _ hq
  obtain ⟨e1, e2, e3, e4, e5, e6, e7, e8, e9⟩ := hent
  exact hm.move hq ⟨0, 0, v + 1, sz⟩ w (by rw [e1]; exact Nat.lt_succ_self _) (fun h => by simp [dead, live, upd_same] at h) rfl rfl rfl (Nat.le_refl _) (fun _ _ => rfl)
    (fun hS hN => EntRd.of_rows (by rw [upd_same]) (Nat.succ_pos _) (by rw [upd_same]) e4 (by simp) (by rw [upd_same]; simp [maxLen]) (by simp) (by simp) (by intro h; rw [upd_same] at h; simp at h))

/-- An array moves under a new place. -/
theorem relabel (hm : RH w S ρ H) {q : Nat} {v sz : Nat} {cap : Option Nat} {es : List (List AV)} (hq : H[q]? = some (.arr true v sz cap es)) {x : Value} (hx : Rd w S ρ H.length (.own q v es.length) x) :
    ∃ ρ', RH w S ρ' (setH (setH H q (dead v sz)) H.length (.arr true 1 sz none es)) ∧ Goes w S ρ H w S ρ' (setH (setH H q (dead v sz)) H.length (.arr true 1 sz none es)) H.length ∧
      Rd w S ρ' (setH (setH H q (dead v sz)) H.length (.arr true 1 sz none es)).length (.own H.length 1 es.length) x := by
  have hqlt : q < H.length := (List.getElem?_eq_some_iff.1 hq).1
  have hent := hm.ent q _ hq
  obtain ⟨e1, e2, e3, e4, e5, e6, e7, e8, e9⟩ := id hent
  obtain ⟨g1, g2⟩ := give_up hm hq
  have hl1 : (setH H q (dead v sz)).length = H.length := by rw [setH_length H q _ (Nat.le_of_lt hqlt)]; omega
  have hS : Later S S w w := Later.refl _ _
  -- the new place takes the old one's block
  have hold : live ρ q (.arr true v sz cap es) → ∀ r e, r ≠ q → H[r]? = some e → live ρ r e → (ρ r).blk ≠ (ρ q).blk := fun hl r e hr he hle => hm.apart r q e _ he hq hle hl hr
  have hget := fun r => setH_get (setH H q (dead v sz)) H.length (.arr true 1 sz none es) r (by rw [hl1]; exact Nat.le_refl _)
  have hget1 := fun r => setH_get H q (dead v sz) r (Nat.le_of_lt hqlt)
  have hlen2 : (setH (setH H q (dead v sz)) H.length (.arr true 1 sz none es)).length = H.length + 1 := by rw [setH_length _ _ _ (by rw [hl1]; exact Nat.le_refl _), hl1]; omega
  let ρ' : Reg := upd (upd ρ q ⟨0, 0, v + 1, sz⟩) H.length ⟨(ρ q).blk, (ρ q).cap, 1, sz⟩
  have hρq : ρ' q = ⟨0, 0, v + 1, sz⟩ := by show upd _ _ _ q = _; rw [upd_other _ _ _ _ (by omega), upd_same]
  have hρn : ρ' H.length = ⟨(ρ q).blk, (ρ q).cap, 1, sz⟩ := upd_same _ _ _
  have hρo : ∀ r, r ≠ q → r ≠ H.length → ρ' r = ρ r := fun r h1 h2 => by show upd _ _ _ r = _; rw [upd_other _ _ _ _ h2, upd_other _ _ _ _ h1]
  have hN : Newer ρ ρ' H.length := fun r hr => by
    by_cases h : r = q
    · subst h; right; rw [hρq, e1]; exact Nat.lt_succ_self _
    · left; exact hρo r h (by omega)
  -- what lies where
  have hcase : ∀ r e, (setH (setH H q (dead v sz)) H.length (.arr true 1 sz none es))[r]? = some e → (r = H.length ∧ e = .arr true 1 sz none es) ∨ (r = q ∧ e = dead v sz) ∨ (r ≠ q ∧ r ≠ H.length ∧ H[r]? = some e) := by
    intro r e he
    rw [hget] at he
    by_cases h : r = H.length
    · rw [if_pos h] at he; left; exact ⟨h, by simpa using he.symm⟩
    · rw [if_neg h, hget1] at he
      by_cases h2 : r = q
      · rw [if_pos h2] at he; right; left; exact ⟨h2, by simpa using he.symm⟩
      · rw [if_neg h2] at he; right; right; exact ⟨h2, h, he⟩
  have hown : ∀ k, Own ρ' (setH (setH H q (dead v sz)) H.length (.arr true 1 sz none es)) k → Own ρ H k := by
    rintro k ⟨r, e, he, hl, hk⟩
    rcases hcase r e he with ⟨rfl, rfl⟩ | ⟨rfl, rfl⟩ | ⟨h1, h2, h3⟩
    · refine ⟨q, _, hq, ?_, ?_⟩
      · simp only [live, hρn] at hl; exact hl
      · rw [← hk, hρn]
    · simp [dead, live, hρq] at hl
    · exact ⟨r, e, h3, (live_congr (hρo r h1 h2)).1 hl, by rw [← hk, hρo r h1 h2]⟩
  refine ⟨ρ', ⟨?_, ?_, ?_⟩, ⟨rfl, rfl, rfl, Nat.le_refl _, fun _ _ _ => rfl, fun k hk => .inl (hown k hk), fun _ h => h, fun _ h => .inl h, by rw [hlen2]; omega, hN⟩, ?_⟩
  · intro r e he
    rw [hlen2]
    rcases hcase r e he with ⟨rfl, rfl⟩ | ⟨rfl, rfl⟩ | ⟨h1, h2, h3⟩
    · refine ⟨by rw [hρn], Nat.one_pos, by rw [hρn], e4, by rw [hρn]; exact e5, by rw [hρn]; exact e6, by simp, e8, fun hc => ?_⟩
      rw [hρn] at hc ⊢
      obtain ⟨cs, ty, c1, c2, c3, c4⟩ := e9 hc
      exact ⟨cs, ty, c1, c2, c3, fun i k e a v he ha hv => (c4 i k e a v he ha hv).mono hS (Nat.le_refl _) (fun p hp => absurd hp (by simp))⟩
    · exact EntRd.of_rows (by rw [hρq]) (Nat.succ_pos _) (by rw [hρq]) e4 (by simp) (by rw [hρq]; simp [maxLen]) (by simp) (by simp) (by intro h; rw [hρq] at h; simp at h)
    · exact (hm.ent r e h3).mono (hρo r h1 h2) (fun _ => rfl) hS (by omega) hN
  · intro r t e f hr ht hlr hlt hne
    rcases hcase r e hr with ⟨rfl, rfl⟩ | ⟨rfl, rfl⟩ | ⟨h1, h2, h3⟩
    · rcases hcase t f ht with ⟨rfl, rfl⟩ | ⟨rfl, rfl⟩ | ⟨k1, k2, k3⟩
      · exact absurd rfl hne
      · simp [dead, live, hρq] at hlt
      · rw [hρn, hρo t k1 k2]
        simp only [live, hρn] at hlr
        exact (hold hlr t f k1 k3 ((live_congr (hρo t k1 k2)).1 hlt)).symm
    · simp [dead, live, hρq] at hlr
    · rcases hcase t f ht with ⟨rfl, rfl⟩ | ⟨rfl, rfl⟩ | ⟨k1, k2, k3⟩
      · rw [hρn, hρo r h1 h2]
        simp only [live, hρn] at hlt
        exact hold hlt r e h1 h3 ((live_congr (hρo r h1 h2)).1 hlr)
      · simp [dead, live, hρq] at hlt
      · rw [hρo r h1 h2, hρo t k1 k2]
        exact hm.apart r t e f h3 k3 ((live_congr (hρo r h1 h2)).1 hlr) ((live_congr (hρo t k1 k2)).1 hlt) hne
  · intro k hk
    exact ⟨(hm.stab k hk).1, fun ho => (hm.stab k hk).2 (hown k ho)⟩
  · cases hx with
    | own _ _ _ _ A cap0 hp hver hcp hA hr =>
      obtain ⟨k1, k2⟩ := hr e1.symm
      refine .own _ _ _ _ _ _ (by rw [hlen2]; omega) (by rw [hρn]; exact Nat.le_refl _) hcp hA ?_
      intro _
      rw [hρn]
      exact ⟨k1, k2⟩

end
end Go.Rf
