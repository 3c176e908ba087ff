/-
  Of two replies: the contracts of the functions that compare them, and of the law.
-/
import Derived.Test.YtdojencjbmahpaaGreatDoorSmD
import Derived.Test.YtdojencjbmahpaaGreatDoorKm
namespace Go.Proofs.YtdojencjbmahpaaGreatDoor
open Go.Rf
set_option maxRecDepth 100000
set_option linter.unusedVariables false

theorem isFun_23 : IsFun Tryz.prog 23 Tryz.f23 := ⟨Tryz.func23, by kernel_rfl, by kernel_rfl⟩
theorem isFun_12 : IsFun Tryz.prog 12 Tryz.f12 := ⟨Tryz.func12, by kernel_rfl, by kernel_rfl⟩
theorem nGE_sound : Sound Tryz.prog nGE := by intro f sp h; cases h
theorem fn61 : SpecSound Tryz.prog 61 (.fn C2B g2B) := dat_sound te_ok nGE_sound mixed isFun_61 (by
  rintro xs Φ ⟨hC, h⟩
  unfold C2B at hC
  split at hC
  · rename_i a es b fs
    rw [v61]
    exact ⟨hC.1, hC.2, h⟩
  · cases hC)
theorem fn62 : SpecSound Tryz.prog 62 (.fn C2S g2S) := dat_sound te_ok nGE_sound mixed isFun_62 (by
  rintro xs Φ ⟨hC, h⟩
  unfold C2S at hC
  split at hC
  · exact s62 _ _ hC.1 hC.2.1 hC.2.2 Φ h
  · cases hC)
theorem fn31 : SpecSound Tryz.prog 31 (.fn C2S g2S) := dat_sound te_ok nGE_sound mixed isFun_31 (by
  rintro xs Φ ⟨hC, h⟩
  unfold C2S at hC
  split at hC
  · exact s31 _ _ hC.1 hC.2.1 hC.2.2 Φ h
  · cases hC)
theorem G35_sound : Sound Tryz.prog G35 := by
  intro f sp h
  unfold G35 at h
  split at h
  · cases h; exact fn61
  · cases h; exact fn62
  · cases h
theorem G23_sound : Sound Tryz.prog G23 := by
  intro f sp h
  unfold G23 at h
  split at h
  · cases h; exact fn31
  · cases h
theorem fn35 : SpecSound Tryz.prog 35 (.fn CSame gSame) := dat_sound te_ok G35_sound mixed isFun_35 (by
  rintro xs Φ ⟨hC, h⟩
  unfold CSame at hC
  split at hC
  · obtain ⟨c1, c2, c3, c4, c5⟩ := hC
    simp only [gSame] at h
    rw [v35]
    refine ⟨⟨c1, c2⟩, ifB_both (fun h1 => ⟨⟨c3, c4, c5⟩, ifB_both (fun h2 => ?_) (fun h2 => ?_)⟩) (fun h1 => ?_)⟩
    · rw [h1, h2, Bool.true_and, Bool.true_and] at h; exact h
    · rw [h1, h2, Bool.true_and, Bool.false_and] at h; exact h
    · rw [h1, Bool.false_and] at h; exact h
  · cases hC)
theorem fn23 : SpecSound Tryz.prog 23 (.fn CSame gSame) := dat_sound te_ok G23_sound mixed isFun_23 (by
  rintro xs Φ ⟨hC, h⟩
  unfold CSame at hC
  split at hC
  · obtain ⟨c1, c2, c3, c4, c5⟩ := hC
    simp only [gSame] at h
    rw [v23]
    refine ⟨c1, c2, ifB_both (fun h1 => ⟨⟨c3, c4, c5⟩, ifB_both (fun h2 => ?_) (fun h2 => ?_)⟩) (fun h1 => ?_)⟩
    · rw [h1, h2, Bool.true_and, Bool.true_and] at h; exact h
    · rw [h1, h2, Bool.true_and, Bool.false_and] at h; exact h
    · rw [h1, Bool.false_and] at h; exact h
  · cases hC)
theorem fn36 : SpecSound Tryz.prog 36 (.fn (fun xs => xs = []) (fun _ => .bool true)) := by
  rintro w S ρ xs args Φ hS hargs ⟨rfl, h⟩
  exact knownM_sound w S ρ [] args Φ hS hargs ⟨_, _, rfl, h⟩
theorem G12_sound : Sound Tryz.prog G12 := by
  intro f sp h
  unfold G12 at h
  split at h
  · cases h; exact fn35
  · cases h; exact fn23
  · cases h; exact fn36
  · cases h

theorem eqS_self : ∀ (es : List (List AV)), eqS es es = true
  | [] => rfl
  | e :: es => by simp only [eqS]; rw [eqS_self es, Bool.and_true]; exact beq_self_eq_true _
theorem eqB_self (es : List (List AV)) : eqB es es = true := beq_self_eq_true _
theorem sameI_self (a b c d e : Int) : sameI a b c d e a b c d e = true := by simp [sameI]

/-- What the law's arguments are. -/
def C12 : List AV → Prop
  | [.agg [.sl 1 _ d, .sl 1 _ n, .int .i64 _, .int .i64 _, .int .i64 _, .int .i64 _, .int .i64 _], .agg [.sl 1 _ d', .sl 1 _ n', .int .i64 _, .int .i64 _, .int .i64 _, .int .i64 _, .int .i64 _]] =>
    (∀ e ∈ d, isByte e) ∧ (∀ e ∈ d', isByte e) ∧ AllStr n ∧ AllStr n'
  | _ => False
theorem fn12 : SpecSound Tryz.prog 12 (.fn C12 (fun _ => .bool true)) := dat_sound te_ok G12_sound mixed isFun_12 (by
  rintro xs Φ ⟨hC, h⟩
  unfold C12 at hC
  split at hC
  · obtain ⟨c1, c2, c3, c4⟩ := hC
    rw [v12]
    have h' : Φ (.bool true) .none := h
    refine ifB_both (fun _ => h') (fun _ => ifB_both (fun _ => h') (fun _ => ifB_both (fun _ => h') (fun h3 => ifB_both (fun _ => h') (fun h4 => ?_))))
    rw [not_leI] at h3
    have hn := of_decide_eq_false h3
    refine ⟨⟨c1, c2, c3, c4, by omega⟩, ⟨c1, c2, c3, c4, by omega⟩, ifB_both (fun _ => ⟨⟨c1, c1, c3, c3, by omega⟩, ifB_both (fun _ => ⟨rfl, h'⟩) (fun hf => ?_)⟩) (fun hf => ?_)⟩
    · rw [eqB_self, eqS_self, sameI_self] at hf
      cases hf
    · simp at hf
  · cases hC)
#print axioms fn12
end Go.Proofs.YtdojencjbmahpaaGreatDoor
