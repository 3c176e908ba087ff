/-
  LIBRARY FUNCTIONS, part 3: one array of the call's own is lent to a function, one comes back.
-/
import Derived.Test.YtdojencjbmahpaaGreatDoorRgB
set_option linter.unusedVariables false
set_option linter.unusedSimpArgs false
namespace Go.Rf

section
variable {P : Program} {w : World} {S : Nat → Prop} {ρ : Reg} {H : List Ent}

/-- What a function that was lent the array at place q leaves behind. -/
theorem after_lend (hm : RH w S ρ H) {q : Nat} {v sz : Nat} {cap : Option Nat} {es : List (List AV)} (hq : H[q]? = some (.arr true v sz cap es))
    {w' : World} {S' : Nat → Prop} {ρ' : Reg} {H' : List Ent} (hm' : RH w' S' ρ' H') (hg : Goes w S (fun _ => ρ q) [.arr true v sz cap es] w' S' ρ' H' 1) {p ver n : Nat} {cap' : Option Nat} {es' es'' : List (List AV)}
    (hp : H'[p]? = some (.arr true ver sz cap' es'')) {k0 : Nat} (hes : es' = es''.take k0) {x : Value} (hx : Rd w' S' ρ' H'.length (.own p ver n) x ∨ Rd w' S' ρ' H'.length (.osub p ver 0 n) x) :
    ∃ ρ'', RH w' S' ρ'' (setH (setH H q (dead v sz)) H.length (.arr true 1 sz none es')) ∧ Goes w S ρ H w' S' ρ'' (setH (setH H q (dead v sz)) H.length (.arr true 1 sz none es')) H.length ∧
      Rd w' S' ρ'' (setH (setH H q (dead v sz)) H.length (.arr true 1 sz none es')).length (.own H.length 1 n) x := by
  have hqlt : q < H.length := (List.getElem?_eq_some_iff.1 hq).1
  have hent := hm.ent q _ hq
  have e1 := hent.1
  have e4 := hent.2.2.2.1
  have hl1 : (setH H q (dead v sz)).length = H.length := by rw [setH_length H q _ (Nat.le_of_lt hqlt)]; omega
  have hget := fun r => setH_get (setH H q (dead v sz)) H.length (.arr true 1 sz none es') r (by rw [hl1]; exact Nat.le_refl _)
  have hget1 := fun r => setH_get H q (dead v sz) r (Nat.le_of_lt hqlt)
  have hlen2 : (setH (setH H q (dead v sz)) H.length (.arr true 1 sz none es')).length = H.length + 1 := by rw [setH_length _ _ _ (by rw [hl1]; exact Nat.le_refl _), hl1]; omega
  let ρ2 : Reg := upd (upd ρ q ⟨0, 0, v + 1, sz⟩) H.length ⟨(ρ' p).blk, (ρ' p).cap, 1, sz⟩
  have hρq : ρ2 q = ⟨0, 0, v + 1, sz⟩ := by show upd _ _ _ q = _; rw [upd_other _ _ _ _ (by omega), upd_same]
  have hρn : ρ2 H.length = ⟨(ρ' p).blk, (ρ' p).cap, 1, sz⟩ := upd_same _ _ _
  have hρo : ∀ r, r ≠ q → r ≠ H.length → ρ2 r = ρ r := fun r h1 h2 => by show upd _ _ _ r = _; rw [upd_other _ _ _ _ h2, upd_other _ _ _ _ h1]
  have hN : Newer ρ ρ2 H.length := fun r hr => by
    by_cases h : r = q
    · subst h; right; rw [hρq, e1]; exact Nat.lt_succ_self _
    · left; exact hρo r h (by omega)
  have hcase : ∀ r e, (setH (setH H q (dead v sz)) H.length (.arr true 1 sz none es'))[r]? = some e → (r = H.length ∧ e = .arr true 1 sz none es') ∨ (r = q ∧ e = dead v sz) ∨ (r ≠ q ∧ r ≠ H.length ∧ H[r]? = some e) := by
    intro r e he
    rw [hget] at he
    by_cases h : r = H.length
    · rw [if_pos h] at he; left; exact ⟨h, by simpa using he.symm⟩
    · rw [if_neg h, hget1] at he
      by_cases h2 : r = q
      · rw [if_pos h2] at he; right; left; exact ⟨h2, by simpa using he.symm⟩
      · rw [if_neg h2] at he; right; right; exact ⟨h2, h, he⟩
  have hlent : ∀ k, Own (fun _ => ρ q) [Ent.arr true v sz cap es] k → live ρ q (.arr true v sz cap es) ∧ (ρ q).blk = k := by
    rintro k ⟨r, e, he, hl, hk⟩
    cases r with
    | zero => simp at he; subst he; exact ⟨hl, hk⟩
    | succ r => simp at he
  have hlent' : ∀ k, Own (fun _ => ρ q) [Ent.arr true v sz cap es] k → Own ρ H k := fun k hk => ⟨q, _, hq, (hlent k hk).1, (hlent k hk).2⟩
  have hkeep : ∀ k, k < w.heap.size → (live ρ q (.arr true v sz cap es) → k ≠ (ρ q).blk) → w'.heap[k]? = w.heap[k]? := fun k hk hne => hg.keep k hk (fun ho => hne (hlent k ho).1 (hlent k ho).2.symm)
  have hother : ∀ r e, r ≠ q → H[r]? = some e → live ρ r e → (ρ r).blk < w.heap.size ∧ (live ρ q (.arr true v sz cap es) → (ρ r).blk ≠ (ρ q).blk) := fun r e hr he hl => ⟨(hm.ent r e he).live_lt hl, fun hlq => hm.apart r q e _ he hq hl hlq hr⟩
  have hnewblk : live ρ' p (.arr true ver sz cap' es'') → (live ρ q (.arr true v sz cap es) ∧ (ρ' p).blk = (ρ q).blk) ∨ w.heap.size ≤ (ρ' p).blk := fun hl => by
    rcases hg.own (ρ' p).blk ⟨p, _, hp, hl, rfl⟩ with h | h
    · exact .inl ⟨(hlent _ h).1, (hlent _ h).2.symm⟩
    · exact .inr h
  have hlive : live ρ2 H.length (.arr true 1 sz none es') → live ρ' p (.arr true ver sz cap' es'') := fun hl => by simpa only [live, hρn] using hl
  have hS : Later S S' w w' := fun k hk => ⟨hg.up k hk, hkeep k (hm.stab k hk).1 (fun hl heq => (hm.stab k hk).2 ⟨q, _, hq, hl, heq.symm⟩)⟩
  have hown : ∀ k, Own ρ2 (setH (setH H q (dead v sz)) H.length (.arr true 1 sz none es')) k → Own ρ H k ∨ w.heap.size ≤ k := by
    rintro k ⟨r, e, he, hl, hk⟩
    rcases hcase r e he with ⟨rfl, rfl⟩ | ⟨rfl, rfl⟩ | ⟨h1, h2, h3⟩
    · rw [hρn] at hk
      simp only at hk
      rcases hnewblk (hlive hl) with ⟨k1, k2⟩ | k1
      · left; exact ⟨q, _, hq, k1, by rw [← k2]; exact hk⟩
      · right; rw [← hk]; exact k1
    · simp [dead, live, hρq] at hl
    · left; exact ⟨r, e, h3, (live_congr (hρo r h1 h2)).1 hl, by rw [← hk, hρo r h1 h2]⟩
  have hentp := hm'.ent p _ hp
  obtain ⟨f1, f2, f3, f4, f5, f6, f7, f8, f9⟩ := id hentp
  refine ⟨ρ2, ⟨?_, ?_, ?_⟩, ⟨hg.os, hg.tape, hg.output, hg.size, fun k hk hno => hkeep k hk (fun hl heq => hno ⟨q, _, hq, hl, heq.symm⟩), hown, hg.up, fun k hk => (hg.down k hk).elim .inl (fun h => h.elim (fun h => .inr (.inl (hlent' k h))) (fun h => .inr (.inr h))), by rw [hlen2]; omega, hN⟩, ?_⟩
  · intro r e he
    rw [hlen2]
    rcases hcase r e he with ⟨rfl, rfl⟩ | ⟨rfl, rfl⟩ | ⟨h1, h2, h3⟩
    · refine ⟨by rw [hρn], Nat.one_pos, by rw [hρn], e4, by rw [hρn]; exact Nat.le_trans (by rw [hes]; simp [Nat.min_le_right]) f5, by rw [hρn]; exact f6, by simp, fun e he => f8 e (by rw [hes] at he; exact List.mem_of_mem_take he), fun hc => ?_⟩
      rw [hρn] at hc ⊢
      obtain ⟨cs, ty, c1, c2, c3, c4⟩ := f9 hc
      exact ⟨cs, ty, c1, c2, c3, fun i k e a v he ha hv => (c4 i k e a v (by rw [hes, List.getElem?_take] at he; split at he; exact he; cases he) ha hv).mono (Later.refl _ _) (Nat.le_refl _) (fun p hp => absurd hp (by simp))⟩
    · exact EntRd.of_rows (by rw [hρq]) (Nat.succ_pos _) (by rw [hρq]) e4 (by simp) (by rw [hρq]; simp [maxLen]) (by simp) (by simp) (by intro h; rw [hρq] at h; simp at h)
    · exact (hm.ent r e h3).mono (hρo r h1 h2) (fun hl => hkeep _ (hother r e h1 h3 hl).1 (hother r e h1 h3 hl).2) hS (by omega) hN
  · have hfar : ∀ r e, r ≠ q → H[r]? = some e → live ρ r e → live ρ2 H.length (.arr true 1 sz none es') → (ρ r).blk ≠ (ρ' p).blk := by
      intro r e hr he hl hln
      rcases hnewblk (hlive hln) with ⟨k1, k2⟩ | k1
      · rw [k2]; exact (hother r e hr he hl).2 k1
      · have := (hother r e hr he hl).1; omega
    intro r t e f hr ht hlr hlt hne
    rcases hcase r e hr with ⟨rfl, rfl⟩ | ⟨rfl, rfl⟩ | ⟨h1, h2, h3⟩
    · rcases hcase t f ht with ⟨rfl, rfl⟩ | ⟨rfl, rfl⟩ | ⟨k1, k2, k3⟩
      · exact absurd rfl hne
      · simp [dead, live, hρq] at hlt
      · rw [hρn, hρo t k1 k2]
        exact (hfar t f k1 k3 ((live_congr (hρo t k1 k2)).1 hlt) hlr).symm
    · simp [dead, live, hρq] at hlr
    · rcases hcase t f ht with ⟨rfl, rfl⟩ | ⟨rfl, rfl⟩ | ⟨k1, k2, k3⟩
      · rw [hρn, hρo r h1 h2]
        exact hfar r e h1 h3 ((live_congr (hρo r h1 h2)).1 hlr) hlt
      · simp [dead, live, hρq] at hlt
      · rw [hρo r h1 h2, hρo t k1 k2]
        exact hm.apart r t e f h3 k3 ((live_congr (hρo r h1 h2)).1 hlr) ((live_congr (hρo t k1 k2)).1 hlt) hne
  · intro k hk
    refine ⟨(hm'.stab k hk).1, ?_⟩
    rintro ⟨r, e, he, hl, hke⟩
    rcases hcase r e he with ⟨rfl, rfl⟩ | ⟨rfl, rfl⟩ | ⟨h1, h2, h3⟩
    · rw [hρn] at hke
      exact (hm'.stab k hk).2 ⟨p, _, hp, hlive hl, hke⟩
    · simp [dead, live, hρq] at hl
    · have hl' := (live_congr (hρo r h1 h2)).1 hl
      rw [hρo r h1 h2] at hke
      have ho := hother r e h1 h3 hl'
      rcases hg.down k hk with h | h | h
      · exact (hm.stab k h).2 ⟨r, e, h3, hl', hke⟩
      · have hq' := hlent k h
        exact ho.2 hq'.1 (by rw [hke, hq'.2])
      · rw [hke] at ho; omega
  · rcases hx with hx | hx
    · cases hx with
      | own _ _ _ _ A cap0 hp' hver hcp hA hr =>
        obtain ⟨k1, k2⟩ := hr f1.symm
        refine .own _ _ _ _ _ _ (by rw [hlen2]; omega) (by rw [hρn]; exact Nat.le_refl _) hcp hA ?_
        intro _
        rw [hρn]
        exact ⟨k1, k2⟩
    · cases hx with
      | osub _ _ _ _ _ A cap0 hp' hver hcp hA hr =>
        obtain ⟨k1, k2⟩ := hr f1.symm
        refine .own _ _ _ _ _ _ (by rw [hlen2]; omega) (by rw [hρn]; exact Nat.le_refl _) hcp hA ?_
        intro _
        rw [hρn]
        exact ⟨by simpa using k1, fun h => by simpa using k2 h⟩

/-- The array alone, as the function that it is lent to sees it. -/
theorem lend_rh (hm : RH w S ρ H) {q : Nat} {v sz : Nat} {cap : Option Nat} {es : List (List AV)} (hq : H[q]? = some (.arr true v sz cap es)) : RH w S (fun _ => ρ q) [.arr true v sz cap es] := by
  refine ⟨?_, ?_, ?_⟩
  · intro r e he
    cases r with
    | zero =>
      simp at he
      subst he
      obtain ⟨h1, h2, h3, h4, h5, h6, h7, h8, h9⟩ := hm.ent q _ hq
      refine ⟨h1, h2, h3, h4, h5, h6, h7, h8, fun hc => ?_⟩
      obtain ⟨cs, ty, k1, k2, k3, k4⟩ := h9 hc
      exact ⟨cs, ty, k1, k2, k3, fun i k e a v he ha hv => (k4 i k e a v he ha hv).mono (Later.refl _ _) (Nat.le_refl _) (fun p hp => absurd hp (by simp))⟩
    | succ r => simp at he
  · intro r t e f hr ht _ _ hne
    cases r with
    | zero => cases t with
      | zero => exact absurd rfl hne
      | succ t => simp at ht
    | succ r => simp at hr
  · intro k hk
    refine ⟨(hm.stab k hk).1, ?_⟩
    rintro ⟨r, e, he, hl, hke⟩
    cases r with
    | zero => simp at he; subst he; exact (hm.stab k hk).2 ⟨q, _, hq, hl, hke⟩
    | succ r => simp at he

end
end Go.Rf
