/-
  RUNNING, part 7: what a function gives at known arguments, kept.
-/
import Derived.Test.YtdojencjbmahpaaGreatDoorRhK
set_option linter.unusedVariables false
set_option linter.unusedSimpArgs false
namespace Go.Rf

def eqBytes : List UInt8 → List UInt8 → Bool
  | [], [] => true
  | a :: l, b :: m => andB (Nat.beq a.toNat b.toNat) (eqBytes l m)
  | _, _ => false
def eqI : Int → Int → Bool
  | .ofNat m, .ofNat n => Nat.beq m n
  | .negSucc m, .negSucc n => Nat.beq m n
  | _, _ => false
def eqLs (f : AV → AV → Bool) : List AV → List AV → Bool
  | [], [] => true
  | a :: l, b :: m => andB (f a b) (eqLs f l m)
  | _, _ => false
def eqRs (f : AV → AV → Bool) : List (List AV) → List (List AV) → Bool
  | [], [] => true
  | a :: l, b :: m => andB (eqLs f a b) (eqRs f l m)
  | _, _ => false
def eqAV : Nat → AV → AV → Bool
  | 0, _, _ => false
  | _ + 1, .int k a, .int l b => andB (eqb (kn k) (kn l)) (eqI a b)
  | _ + 1, .bool true, .bool true => true
  | _ + 1, .bool false, .bool false => true
  | _ + 1, .str a, .str b => eqBytes a.data.toList b.data.toList
  | n + 1, .agg cs, .agg ds => eqLs (eqAV n) cs ds
  | n + 1, .sl s false es, .sl t false fs => andB (Nat.beq s t) (eqRs (eqAV n) es fs)
  | _, _, _ => false

theorem eqBytes_eq : ∀ {l m : List UInt8}, eqBytes l m = true → l = m
  | [], [], _ => rfl
  | [], _ :: _, h => by cases h
  | _ :: _, [], h => by cases h
  | a :: l, b :: m, h => by
    obtain ⟨h1, h2⟩ := andB_true h
    have h3 : a.toNat = b.toNat := Nat.eq_of_beq_eq_true h1
    rw [UInt8.toNat_inj.1 h3, eqBytes_eq h2]
theorem eqI_eq {a b : Int} (h : eqI a b = true) : a = b := by
  cases a <;> cases b <;> simp only [eqI, Bool.false_eq_true] at h
  · exact congrArg Int.ofNat (Nat.eq_of_beq_eq_true h)
  · exact congrArg Int.negSucc (Nat.eq_of_beq_eq_true h)
theorem eqLs_eq {f : AV → AV → Bool} (hf : ∀ a b, f a b = true → a = b) : ∀ {l m : List AV}, eqLs f l m = true → l = m
  | [], [], _ => rfl
  | [], _ :: _, h => by cases h
  | _ :: _, [], h => by cases h
  | a :: l, b :: m, h => by
    obtain ⟨h1, h2⟩ := andB_true h
    rw [hf a b h1, eqLs_eq hf h2]
theorem eqRs_eq {f : AV → AV → Bool} (hf : ∀ a b, f a b = true → a = b) : ∀ {l m : List (List AV)}, eqRs f l m = true → l = m
  | [], [], _ => rfl
  | [], _ :: _, h => by cases h
  | _ :: _, [], h => by cases h
  | a :: l, b :: m, h => by
    obtain ⟨h1, h2⟩ := andB_true h
    rw [eqLs_eq hf h1, eqRs_eq hf h2]
theorem eqAV_eq : ∀ (n : Nat) (a b : AV), eqAV n a b = true → a = b
  | 0, a, b, h => by simp [eqAV] at h
  | n + 1, a, b, h => by
    have ih := eqAV_eq n
    unfold eqAV at h
    split at h
    · cases h
    · obtain ⟨h1, h2⟩ := andB_true h
      rw [kn_eq h1, eqI_eq h2]
    · rfl
    · rfl
    · rename_i s t
      have h1 := eqBytes_eq h
      have hb : ∀ a b : ByteArray, a.data.toList = b.data.toList → a = b := by
        rintro ⟨⟨x⟩⟩ ⟨⟨y⟩⟩ h
        have h2 : x = y := h
        rw [h2]
      first
        | rw [hb _ _ h1]
        | exact congrArg AV.str (hb _ _ h1)
    · rename_i heq
      cases heq
      rw [eqLs_eq ih h]
    · rename_i heq
      cases heq
      obtain ⟨h1, h2⟩ := andB_true h
      rw [Nat.eq_of_beq_eq_true h1, eqRs_eq ih h2]
    · cases h

/-- A function at known arguments. -/
def memo (as : List AV) (r : AV) (xs : List AV) : Option (AV × Ent) := whenB (eqLs (eqAV 20) xs as) (some (r, .none))
theorem memo_sound {P : Program} {f : FuncId} {g : List AV → Option (AV × Ent)} (hg : SpecSound P f (XS.spec (.dat g))) {as : List AV} {r : AV} (hx : g as = some (r, .none)) : SpecSound P f (XS.spec (.dat (memo as r))) := by
  rintro w S ρ xs args Φ hS hargs ⟨x, e, h, hΦ⟩
  unfold memo at h
  obtain ⟨h1, h2⟩ := whenB_some h
  have := eqLs_eq (eqAV_eq 20) h1
  subst this
  simp only [Option.some.injEq, Prod.mk.injEq] at h2
  obtain ⟨rfl, rfl⟩ := h2
  exact hg w S ρ _ args Φ hS hargs ⟨_, _, hx, hΦ⟩

end Go.Rf
