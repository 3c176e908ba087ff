/-
  RUNNING, part 8: arguments that lead into memory: what is read of them, told.
-/
import Derived.Test.YtdojencjbmahpaaGreatDoorRhL
import Derived.Deep.Slices
import Derived.Deep.Strs
import Derived.WideKeyArgs
set_option linter.unusedVariables false
set_option linter.unusedSimpArgs false
namespace Go.Rf

section
variable {H : Type} {enc : TypeId × Value → H} {P : Program} {w : World} {base : Nat} {spare : Nat → Bool} {held : Bool} {S : Nat → Prop} {ρ : Reg}

theorem block_add (a : Addr) (i : Nat) : (a.add i).block = a.block := by unfold Addr.add; split <;> rfl
theorem lt_of_cell {a : Addr} {v : Value} (h : w.cell? a = some v) : a.block < w.heap.size := by
  unfold World.cell? at h
  cases hb : w.heap[a.block]? with
  | none => rw [hb] at h; cases h
  | some o => exact (Array.getElem?_eq_some_iff.1 hb).1

/-- A slice of one-cell elements. -/
theorem rd_slice1 {t e : TypeId} {fuel n : Nat} {v : Value} {x : DataW H × List MemPlace} (ht : P.underlying t = some (.slice e)) (hc : P.cellsOf e = 1) (h : DataW.trod enc P w base spare held fuel t [v] = some x)
    (hS : ∀ k, k < w.heap.size → S k) {Q : AV → Prop} (good : ∀ V D m, DataW.trod enc P w base spare held m e [V] = some D → ∃ a, Q a ∧ V.oneCell' = true ∧ Rd w S ρ 0 a V) :
    v.oneCell' = true ∧ ∃ es, (∀ e ∈ es, ∃ a, e = [a] ∧ Q a) ∧ Rd w S ρ n (.sl 1 false es) v := by
  rcases Deep.open_slice1 ht hc h with ⟨h1, h2⟩ | ⟨a, len, cap, m, k, V, D, Pl, h1, hb, hl, hm, hmm, hx, hall⟩
  · simp only [List.cons.injEq, and_true] at h1
    subst h1
    exact ⟨rfl, [], by simp, .sl _ 1 false [] none 0 0 (fun _ _ => default) rfl (Nat.le_refl _) (Nat.zero_le _) (by simp) (by simp) (by intro i k hi; omega) (by intro h; omega) (by simp)⟩
  · simp only [List.cons.injEq, and_true] at h1
    subst h1
    have hlm : len ≤ m := by rw [hmm]; split <;> omega
    have hch : ∀ i, ∃ a, i < len → Q a ∧ (V i).oneCell' = true ∧ Rd w S ρ 0 a (V i) := by
      intro i
      by_cases hi : i < len
      · obtain ⟨c1, c2⟩ := hall i (by omega)
        obtain ⟨a, k1, k2, k3⟩ := good (V i) _ _ c2
        exact ⟨a, fun _ => ⟨k1, k2, k3⟩⟩
      · exact ⟨.junk, fun h => absurd h hi⟩
    obtain ⟨f, hf⟩ := Classical.axiomOfChoice hch
    refine ⟨rfl, (List.range len).map (fun i => [f i]), ?_, ?_⟩
    · intro e he
      obtain ⟨i, hi, rfl⟩ := List.mem_map.1 he
      exact ⟨f i, rfl, (hf i (List.mem_range.1 hi)).1⟩
    · refine .sl _ 1 false _ (some a) len cap (fun i _ => V i) (by simp) hl hm (by simp) (by simp) ?_ (fun _ => rfl) ?_
      · intro i k hi hk
        have hk0 : k = 0 := by omega
        subst hk0
        obtain ⟨c1, c2⟩ := hall i (by omega)
        have hblk := lt_of_cell c1
        rw [block_add] at hblk
        exact ⟨a, rfl, hS _ hblk, by simpa using c1, (hf i hi).2.1⟩
      · intro i k e b he hb'
        have hi : i < len := by
          have := (List.getElem?_eq_some_iff.1 he).1
          simpa using this
        rw [List.getElem?_map, List.getElem?_range hi] at he
        simp only [Option.map_some, Option.some.injEq] at he
        subst he
        cases k with
        | zero => simp at hb'; subst hb'; exact (hf i hi).2.2
        | succ k => simp at hb'

theorem good_u8 {e : TypeId} (he : P.underlying e = some (.int .u8)) (V : Value) (D : DataW H × List MemPlace) (m : Nat) (h : DataW.trod enc P w base spare held m e [V] = some D) : ∃ a, (∃ x : Int, a = .int .u8 x ∧ 0 ≤ x ∧ x < 256) ∧ V.oneCell' = true ∧ Rd w S ρ 0 a V := by
  obtain ⟨n, h1, h2, h3⟩ := DataW.trod_int he h
  simp only [List.cons.injEq, and_true] at h1
  subst h1
  have hw : 0 ≤ n ∧ n ≤ 255 := by simpa [Lit.wf, IntKind.min, IntKind.max, IntKind.signed, IntKind.bits] using h3
  exact ⟨_, ⟨n, rfl, by omega, by omega⟩, rfl, .int _ _ _⟩
theorem good_str {e : TypeId} (he : P.underlying e = some .string) (V : Value) (D : DataW H × List MemPlace) (m : Nat) (h : DataW.trod enc P w base spare held m e [V] = some D) : ∃ a, (∃ s, a = .str s) ∧ V.oneCell' = true ∧ Rd w S ρ 0 a V := by
  obtain ⟨s, h1, h2, h3⟩ := DataW.trod_string he h
  simp only [List.cons.injEq, and_true] at h1
  subst h1
  exact ⟨_, ⟨s, rfl⟩, rfl, .str _ _⟩
theorem bytes_of {es : List (List AV)} (h : ∀ e ∈ es, ∃ a, e = [a] ∧ ∃ x : Int, a = .int .u8 x ∧ 0 ≤ x ∧ x < 256) : ∀ e ∈ es, isByte e := by
  intro e he
  obtain ⟨a, rfl, x, rfl, h1, h2⟩ := h e he
  show isByteB [.int .u8 x] = true
  simp [isByteB, h1, h2]

/-- What is read of an argument is read again, where all that was there is as it was. -/
theorem stays {t : TypeId} (hl : laidOutB P = true) (hr : P.readableRec t = true) (hrow : t < P.types.size) {w' : World} {sp' : Nat → Bool} {v : Value} {d : DataW H} {ps : List MemPlace}
    (h : DataW.Trod enc P w base (fun _ => true) true t v d ps) (ho : Old w w') (hlt : ∀ p ∈ ps, p.block < w.heap.size) (hs : ∀ p ∈ ps, sp' p.block = true) : DataW.Trod enc P w' base sp' true t v d ps := by
  refine WideElems.Trod_stays hl hr hrow h (fun p hp => ?_) hs
  have hk := ho.keep p.block (hlt p hp)
  cases p with
  | cell b off => exact World.cell?_of_block hk
  | map b => exact hk

/-- A law with arguments of any kind. -/
theorem law_calls_any {f : FuncId} {fn : Func} (hf : IsFun P f fn) {C : List AV → Prop} (hg : SpecSound P f (.fn C (fun _ => .bool true))) {xs : List AV} (hC : C xs) {args : Array Value}
    (hargs : ArgsRd w (fun k => k < w.heap.size) (fun _ => ⟨0, 0, 0, 0⟩) 0 xs args) : Calls P f args w fun e w' => e = .returned (.bool true) ∧ Old w w' := by
  refine Calls.mono (calls_of_runs hf (hg w (fun k => k < w.heap.size) (fun _ => ⟨0, 0, 0, 0⟩) xs args (fun r en => r = .bool true) (fun k hk => hk) hargs ⟨hC, rfl⟩)) ?_
  intro ex w' hq
  cases ex with
  | returned v =>
    obtain ⟨r, en, S', ρ', rfl, h2, h3, h4, h5⟩ := hq
    cases h4
    have hno : ∀ k, ¬ Own ρ' [] k := by rintro k ⟨p, e, he, _⟩; simp at he
    exact ⟨rfl, h5.os, h5.output, h5.size, fun k hk => h5.keep k hk (hno k)⟩
  | _ => exact hq.elim

end
end Go.Rf
