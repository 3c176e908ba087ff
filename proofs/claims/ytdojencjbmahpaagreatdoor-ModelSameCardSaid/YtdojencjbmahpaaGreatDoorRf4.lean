/-
  THE SYMBOLIC EXECUTOR, part 4: how the memory may go on.
-/
import Derived.Test.YtdojencjbmahpaaGreatDoorRf3
set_option linter.unusedVariables false
set_option linter.unusedSimpArgs false
namespace Go.Rf

theorem setH_length : ∀ (H : List Ent) (p : Nat) (e : Ent), p ≤ H.length → (setH H p e).length = max H.length (p + 1)
  | [], 0, e, _ => by simp [setH]
  | [], p + 1, e, h => by simp at h
  | x :: H, 0, e, _ => by simp [setH]
  | x :: H, p + 1, e, h => by
    simp only [setH, List.length_cons]
    rw [setH_length H p e (by simp at h; omega)]
    omega
theorem setH_get : ∀ (H : List Ent) (p : Nat) (e : Ent) (q : Nat), p ≤ H.length → (setH H p e)[q]? = if q = p then some e else H[q]?
  | [], 0, e, q, _ => by cases q <;> simp [setH]
  | [], p + 1, e, q, h => by simp at h
  | x :: H, 0, e, q, _ => by cases q <;> simp [setH]
  | x :: H, p + 1, e, q, h => by
    cases q with
    | zero => simp [setH]
    | succ q =>
      simp only [setH, List.getElem?_cons_succ]
      rw [setH_get H p e q (by simp at h; omega)]
      by_cases hq : q = p <;> simp [hq]

theorem EntRd.live_heap {w : World} {S : Nat → Prop} {ρ : Reg} {n p : Nat} {e : Ent} (h : EntRd w S ρ n p e) (hl : live ρ p e) : ∃ cs ty, w.heap[(ρ p).blk]? = some (.cells cs ty (0, 0)) := by
  cases e with
  | none => exact hl.elim
  | var cells => obtain ⟨_, cs, ty, h1, _⟩ := h; exact ⟨cs, ty, h1⟩
  | arr cl ver sz cap es => obtain ⟨_, _, _, _, _, _, _, _, h9⟩ := h; obtain ⟨cs, ty, h1, _⟩ := h9 hl; exact ⟨cs, ty, h1⟩
theorem EntRd.live_lt {w : World} {S : Nat → Prop} {ρ : Reg} {n p : Nat} {e : Ent} (h : EntRd w S ρ n p e) (hl : live ρ p e) : (ρ p).blk < w.heap.size := by
  obtain ⟨cs, ty, h1⟩ := h.live_heap hl
  exact (Array.getElem?_eq_some_iff.1 h1).1
theorem RH.own_lt {w : World} {S : Nat → Prop} {ρ : Reg} {H : List Ent} (h : RH w S ρ H) {k : Nat} (ho : Own ρ H k) : k < w.heap.size := by
  obtain ⟨p, e, he, hl, rfl⟩ := ho
  exact (h.ent p e he).live_lt hl

theorem CellsRd.mono {w w' : World} {S S' : Nat → Prop} {ρ ρ' : Reg} {n m : Nat} {cells : List AV} {cs : Array Value} (h : CellsRd w S ρ n cells cs) (hS : Later S S' w w') (hm : n ≤ m) (hn : Newer ρ ρ' n) :
    CellsRd w' S' ρ' m cells cs := ⟨h.1, h.2.1, fun i a v ha hv => (h.2.2 i a v ha hv).mono hS hm hn⟩

theorem live_congr {ρ ρ' : Reg} {p : Nat} {e : Ent} (h : ρ' p = ρ p) : live ρ' p e ↔ live ρ p e := by cases e <;> simp [live, h]

theorem EntRd.mono {w w' : World} {S S' : Nat → Prop} {ρ ρ' : Reg} {n m p : Nat} {e : Ent} (h : EntRd w S ρ n p e) (hρ : ρ' p = ρ p) (hb : live ρ p e → w'.heap[(ρ p).blk]? = w.heap[(ρ p).blk]?)
    (hS : Later S S' w w') (hm : n ≤ m) (hn : Newer ρ ρ' n) : EntRd w' S' ρ' m p e := by
  cases e with
  | none => exact (by simpa only [EntRd, hρ] using h)
  | var cells =>
    obtain ⟨h0, cs, ty, h1, h2⟩ := h
    exact ⟨by rw [hρ]; exact h0, cs, ty, by rw [hρ, hb trivial]; exact h1, h2.mono hS hm hn⟩
  | arr cl ver sz cap es =>
    obtain ⟨h1, h2, h3, h4, h5, h6, h7, h8, h9⟩ := h
    refine ⟨by rw [hρ]; exact h1, h2, by rw [hρ]; exact h3, h4, by rw [hρ]; exact h5, by rw [hρ]; exact h6, by rw [hρ]; exact h7, h8, fun hc => ?_⟩
    rw [hρ] at hc
    obtain ⟨cs, ty, k1, k2, k3, k4⟩ := h9 hc
    refine ⟨cs, ty, by rw [hρ, hb hc]; exact k1, by rw [hρ]; exact k2, k3, fun i k e a v he ha hv => ?_⟩
    have := k4 i k e a v he ha hv
    cases cl with
    | true => exact this.mono hS (Nat.le_refl _) (fun p hp => absurd hp (by simp))
    | false => exact this.mono hS hm hn

/-- One place of the abstract memory takes a new content; blocks that it doesn't own stay. -/
theorem RH.change {w w' : World} {S S' : Nat → Prop} {ρ ρ' : Reg} {H : List Ent} {p : Nat} {e' : Ent} (h : RH w S ρ H) (hp : p ≤ H.length)
    (hρ : ∀ q, q ≠ p → ρ' q = ρ q) (hN : p < H.length → ρ' p = ρ p ∨ (ρ p).ver < (ρ' p).ver)
    (hos : w'.os = w.os) (htape : w'.tape = w.tape) (hout : w'.output = w.output) (hsize : w.heap.size ≤ w'.heap.size)
    (hkeep : ∀ k, k < w.heap.size → (∀ e, H[p]? = some e → live ρ p e → k ≠ (ρ p).blk) → w'.heap[k]? = w.heap[k]?)
    (hblk : live ρ' p e' → ((ρ' p).blk = (ρ p).blk ∧ ∃ e, H[p]? = some e ∧ live ρ p e) ∨ (w.heap.size ≤ (ρ' p).blk))
    (hup : ∀ k, S k → S' k) (hdown : ∀ k, S' k → S k ∨ (w.heap.size ≤ k ∧ k < w'.heap.size ∧ (live ρ' p e' → k ≠ (ρ' p).blk)))
    (he : EntRd w' S' ρ' (setH H p e').length p e') :
    RH w' S' ρ' (setH H p e') ∧ Goes w S ρ H w' S' ρ' (setH H p e') H.length := by
  have hlen := setH_length H p e' hp
  have hget := fun q => setH_get H p e' q hp
  have hnew : Newer ρ ρ' H.length := fun q hq => by
    by_cases hqp : q = p
    · subst hqp; exact hN hq
    · exact .inl (hρ q hqp)
  have hk : ∀ k, k < w.heap.size → ¬ Own ρ H k → w'.heap[k]? = w.heap[k]? := fun k hk hn =>
    hkeep k hk (fun e he hl => fun heq => hn ⟨p, e, he, hl, heq.symm⟩)
  have hS : Later S S' w w' := fun k hkS => ⟨hup k hkS, hk k (h.stab k hkS).1 (h.stab k hkS).2⟩
  have hblock : ∀ q e, q ≠ p → H[q]? = some e → live ρ q e → w'.heap[(ρ q).blk]? = w.heap[(ρ q).blk]? := fun q e hqp hq hl =>
    hkeep _ ((h.ent q e hq).live_lt hl) (fun f hf hlf => h.apart q p e f hq hf hl hlf hqp)
  have hent : ∀ q e, (setH H p e')[q]? = some e → EntRd w' S' ρ' (setH H p e').length q e := by
    intro q e hq
    rw [hget] at hq
    by_cases hqp : q = p
    · subst hqp
      simp at hq
      subst hq
      exact he
    · rw [if_neg hqp] at hq
      exact (h.ent q e hq).mono (hρ q hqp) (fun hl => hblock q e hqp hq hl) hS (by rw [hlen]; omega) hnew
  have hdist : ∀ q e, q ≠ p → H[q]? = some e → live ρ q e → live ρ' p e' → (ρ q).blk ≠ (ρ' p).blk := by
    intro q e hqp hq hl hl'
    rcases hblk hl' with ⟨h1, f, hf, hlf⟩ | h1
    · rw [h1]; exact h.apart q p e f hq hf hl hlf hqp
    · have := (h.ent q e hq).live_lt hl
      omega
  refine ⟨⟨hent, ?_, ?_⟩, ⟨hos, htape, hout, hsize, hk, ?_, hup, ?_, by rw [hlen]; omega, hnew⟩⟩
  · intro q r e f hq hr hlq hlr hne
    rw [hget] at hq hr
    by_cases hqp : q = p
    · subst hqp
      simp at hq
      subst hq
      rw [if_neg (Ne.symm hne)] at hr
      have hlr' := (live_congr (hρ r (Ne.symm hne))).1 hlr
      rw [hρ r (Ne.symm hne)]
      exact (hdist r f (Ne.symm hne) hr hlr' hlq).symm
    · rw [if_neg hqp] at hq
      have hlq' := (live_congr (hρ q hqp)).1 hlq
      rw [hρ q hqp]
      by_cases hrp : r = p
      · subst hrp
        simp at hr
        subst hr
        exact hdist q e hqp hq hlq' hlr
      · rw [if_neg hrp] at hr
        have hlr' := (live_congr (hρ r hrp)).1 hlr
        rw [hρ r hrp]
        exact h.apart q r e f hq hr hlq' hlr' hne
  · intro k hk'
    rcases hdown k hk' with h1 | ⟨h1, h2, h3⟩
    · refine ⟨Nat.lt_of_lt_of_le (h.stab k h1).1 hsize, ?_⟩
      rintro ⟨q, e, hq, hl, rfl⟩
      rw [hget] at hq
      by_cases hqp : q = p
      · subst hqp
        simp at hq
        subst hq
        rcases hblk hl with ⟨h4, f, hf, hlf⟩ | h4
        · rw [h4] at h1
          exact (h.stab _ h1).2 ⟨q, f, hf, hlf, rfl⟩
        · have := (h.stab _ h1).1
          omega
      · rw [if_neg hqp] at hq
        have hl' := (live_congr (hρ q hqp)).1 hl
        rw [hρ q hqp] at h1
        exact (h.stab _ h1).2 ⟨q, e, hq, hl', rfl⟩
    · refine ⟨h2, ?_⟩
      rintro ⟨q, e, hq, hl, rfl⟩
      rw [hget] at hq
      by_cases hqp : q = p
      · subst hqp
        simp at hq
        subst hq
        exact h3 hl rfl
      · rw [if_neg hqp] at hq
        have hl' := (live_congr (hρ q hqp)).1 hl
        have := (h.ent q e hq).live_lt hl'
        rw [hρ q hqp] at h1
        omega
  · rintro k ⟨q, e, hq, hl, rfl⟩
    rw [hget] at hq
    by_cases hqp : q = p
    · subst hqp
      simp at hq
      subst hq
      rcases hblk hl with ⟨h4, f, hf, hlf⟩ | h4
      · exact .inl ⟨q, f, hf, hlf, h4.symm⟩
      · exact .inr h4
    · rw [if_neg hqp] at hq
      exact .inl ⟨q, e, hq, (live_congr (hρ q hqp)).1 hl, by rw [hρ q hqp]⟩
  · intro k hk'
    rcases hdown k hk' with h1 | ⟨h1, _⟩
    · exact .inl h1
    · exact .inr (.inr h1)

/-- The abstract memory stays; there may be new blocks. -/
theorem RH.same {w w' : World} {S S' : Nat → Prop} {ρ : Reg} {H : List Ent} (h : RH w S ρ H)
    (hos : w'.os = w.os) (htape : w'.tape = w.tape) (hout : w'.output = w.output) (hsize : w.heap.size ≤ w'.heap.size)
    (hkeep : ∀ k, k < w.heap.size → w'.heap[k]? = w.heap[k]?) (hup : ∀ k, S k → S' k) (hdown : ∀ k, S' k → S k ∨ (w.heap.size ≤ k ∧ k < w'.heap.size)) :
    RH w' S' ρ H ∧ Goes w S ρ H w' S' ρ H H.length := by
  have hS : Later S S' w w' := fun k hk => ⟨hup k hk, hkeep k (h.stab k hk).1⟩
  refine ⟨⟨fun q e hq => (h.ent q e hq).mono rfl (fun hl => hkeep _ ((h.ent q e hq).live_lt hl)) hS (Nat.le_refl _) (Newer.refl _ _), h.apart, ?_⟩,
    ⟨hos, htape, hout, hsize, fun k hk _ => hkeep k hk, fun k hk => .inl hk, hup, ?_, Nat.le_refl _, Newer.refl _ _⟩⟩
  · intro k hk
    rcases hdown k hk with h1 | ⟨h1, h2⟩
    · exact ⟨Nat.lt_of_lt_of_le (h.stab k h1).1 hsize, (h.stab k h1).2⟩
    · refine ⟨h2, fun ho => ?_⟩
      have := h.own_lt ho
      omega
  · intro k hk
    rcases hdown k hk with h1 | ⟨h1, _⟩
    · exact .inl h1
    · exact .inr (.inr h1)

end Go.Rf
