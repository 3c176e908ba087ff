/-
  THE SYMBOLIC EXECUTOR, part 17: a region in the order of the text.
-/
import Derived.Test.YtdojencjbmahpaaGreatDoorRfG
set_option linter.unusedVariables false
set_option linter.unusedSimpArgs false
namespace Go.Rf

section
variable {P : Program} {w : World} {S : Nat → Prop} {ρ : Reg}

theorem dstAt_eq : ∀ (l : List Oper) (j : Nat), dstAt l j = (l[j]?).bind (·.dst)
  | [], j => by simp [dstAt]
  | o :: l, 0 => by simp [dstAt]
  | o :: l, j + 1 => by simpa [dstAt] using dstAt_eq l j

theorem set_self_of_getD {T : List AV} {d : Nat} {x : AV} (h : T.getD d .junk = x) (hx : x ≠ .junk) : T.set d x = T := by
  rw [List.getD_eq_getElem?_getD] at h
  cases hd : T[d]? with
  | none => rw [hd] at h; exact absurd h.symm hx
  | some y =>
    rw [hd] at h
    simp at h
    subst h
    apply List.ext_getElem?
    intro i
    by_cases hi : d = i
    · subst hi
      have hlt := (List.getElem?_eq_some_iff.1 hd).1
      rw [List.getElem?_set_self hlt, hd]
    · rw [List.getElem?_set_ne hi]

/-- What the machine does with an operation of a region. -/
def wpStep (P : Program) (ops : Array Oper) (o : Oper) (next : Act → World → Prop) (Q : Exit → Act → World → Prop) (a : Act) (w : World) : Prop :=
  if Region.wanted o (yielded ops a.tmps) then o.wp P a w next Q ∨ (o.asks P a w ∧ LetsOut Q) else next (a.put o.dst undef) w

/-- A guard, told: its value at the machine, and what is then wanted. -/
theorem guard_told {all : List Oper} {s : St} {a : Act} (hs : RS w S ρ s a) (o : Oper) {j : Nat} {want : Bool} (hg : o.guard = some (j, want)) {d : Nat} (hd : dstAt all j = some d) {b : Bool} (hT : s.T.getD d .junk = .bool b) :
    Region.wanted o (yielded all.toArray a.tmps) = (b == want) := by
  rw [dstAt_eq] at hd
  have hlt : d < s.T.length := by
    rcases Nat.lt_or_ge d s.T.length with h | h
    · exact h
    · rw [List.getD_eq_getElem?_getD, List.getElem?_eq_none h] at hT; cases hT
  have h1 : s.T[d]? = some (.bool b) := by
    rw [List.getD_eq_getElem?_getD, List.getElem?_eq_getElem hlt] at hT
    rw [List.getElem?_eq_getElem hlt]
    simpa using hT
  have h2 : a.tmps[d]? = some (a.tmps[d]'(by rw [hs.size]; exact hlt)) := Array.getElem?_eq_getElem _
  have h3 := hs.tmp d _ _ h1 h2
  have h4 : a.tmps[d]? = some (.bool b) := by
    rw [h2]
    congr 1
    generalize a.tmps[d]'(by rw [hs.size]; exact hlt) = v at h3
    cases h3; rfl
  have hy : yielded all.toArray a.tmps j = some b := by
    unfold yielded
    rw [List.getElem?_toArray, hd]
    simp only [Option.bind_some, h4]
  unfold Region.wanted
  rw [hg]
  simp only [hy]
  cases b <;> cases want <;> rfl

/-- Where what the guard asks for was itself passed over, the operation is passed over. -/
theorem guard_undef {all : List Oper} {s : St} {a : Act} (hs : RS w S ρ s a) (o : Oper) {j : Nat} {want : Bool} (hg : o.guard = some (j, want)) {d : Nat} (hd : dstAt all j = some d) (hT : s.T.getD d .junk = .tup []) :
    Region.wanted o (yielded all.toArray a.tmps) = false := by
  rw [dstAt_eq] at hd
  have hlt : d < s.T.length := by
    rcases Nat.lt_or_ge d s.T.length with h | h
    · exact h
    · rw [List.getD_eq_getElem?_getD, List.getElem?_eq_none h] at hT; cases hT
  have h1 : s.T[d]? = some (.tup []) := by
    rw [List.getD_eq_getElem?_getD, List.getElem?_eq_getElem hlt] at hT
    rw [List.getElem?_eq_getElem hlt]
    simpa using hT
  have h2 : a.tmps[d]? = some (a.tmps[d]'(by rw [hs.size]; exact hlt)) := Array.getElem?_eq_getElem _
  have h3 := hs.tmp d _ _ h1 h2
  have hy : yielded all.toArray a.tmps j = none := by
    unfold yielded
    rw [List.getElem?_toArray, hd]
    simp only [Option.bind_some, h2]
    generalize a.tmps[d]'(by rw [hs.size]; exact hlt) = v at h3
    cases h3
    rfl
  unfold Region.wanted
  rw [hg]
  simp only [hy]
  rfl
theorem undef_rd (w : World) (S : Nat → Prop) (ρ : Reg) (n : Nat) : Rd w S ρ n (.tup []) undef := .tup n [] [] rfl (by simp)

theorem wGuard_sound {te : TE} (hte : TEok P te) {Γ : GE} (hΓ : Sound P Γ) {all : List Oper} {s : St} {a : Act} (hs : RS w S ρ s a) (o : Oper) {K : Kont} (hw : wGuard te Γ all o s.T s.H K o.guard) {next : Act → World → Prop} {Q : Exit → Act → World → Prop} (hn : Next' P w S ρ s.H K next) :
    wpStep P all.toArray o next Q a w := by
  unfold wpStep
  cases hg : o.guard with
  | none =>
    rw [hg] at hw
    rw [if_pos (by unfold Region.wanted; rw [hg])]
    exact .inl (wOp_sound hte hΓ hs o hw hn)
  | some g =>
    obtain ⟨j, want⟩ := g
    rw [hg] at hw
    simp only [wGuard] at hw
    cases hd : dstAt all j with
    | none => rw [hd] at hw; cases hw
    | some d =>
      rw [hd] at hw
      simp only [guardD] at hw
      cases hT : s.T.getD d .junk with
      | bool b =>
        rw [hT] at hw
        have hself := set_self_of_getD hT (by simp)
        rw [guard_told hs o hg hd hT]
        have skip : K ⟨putT s.T (.tup []) o.dst, s.H⟩ → next (a.put o.dst undef) w := fun hk => hn w S ρ _ _ (hs.put (undef_rd w S ρ _) o.dst) (Goes.refl w S ρ s.H (Nat.le_refl _)) hk
        cases b <;> cases want <;> simp only [guardV, ifB] at hw <;> rw [hself] at hw
        · exact .inl (wOp_sound hte hΓ hs o hw hn)
        · exact skip hw
        · exact skip hw
        · exact .inl (wOp_sound hte hΓ hs o hw hn)
      | tup vs =>
        rw [hT] at hw
        cases vs with
        | cons v vs => cases hw
        | nil =>
          rw [guard_undef hs o hg hd hT]
          exact hn w S ρ _ _ (hs.put (undef_rd w S ρ _) o.dst) (Goes.refl w S ρ s.H (Nat.le_refl _)) hw
      | _ => rw [hT] at hw; cases hw

theorem wSeq_sound {te : TE} (hte : TEok P te) {Γ : GE} (hΓ : Sound P Γ) {all : List Oper} {K : Kont} {Q : Exit → Act → World → Prop} : ∀ (rest pre : List Oper) {w : World} {S : Nat → Prop} {ρ : Reg} {s : St} {a : Act}, all = pre ++ rest → RS w S ρ s a → wSeq te Γ all rest s K →
    (∀ w' S' ρ' s' a', RS w' S' ρ' s' a' → Goes w S ρ s.H w' S' ρ' s'.H s.H.length → K s' → Q .normal a' w') → wpOps P all.toArray Q (List.range' pre.length rest.length) a w
  | [], pre, w, S, ρ, s, a, ha, hs, hw, hn => hn w S ρ s a hs (Goes.refl w S ρ s.H (Nat.le_refl _)) hw
  | o :: rest, pre, w, S, ρ, s, a, ha, hs, hw, hn => by
    have hget : all.toArray[pre.length]? = some o := by
      rw [List.getElem?_toArray, ha, List.getElem?_append_right (Nat.le_refl _), Nat.sub_self]
      rfl
    simp only [List.length_cons, List.range'_succ, wpOps, hget]
    simp only [wSeq] at hw
    have hlen : pre.length + 1 = (pre ++ [o]).length := by simp
    have key := wGuard_sound hte hΓ hs o hw (next := wpOps P all.toArray Q (List.range' (pre.length + 1) rest.length)) (Q := Q) (fun w' S' ρ' s' a' hs' hg' hk => by
      rw [hlen]
      refine wSeq_sound hte hΓ rest (pre ++ [o]) (by rw [ha]; simp) hs' hk ?_
      intro w'' S'' ρ'' s'' a'' hs'' hg'' hk''
      exact hn w'' S'' ρ'' s'' a'' hs'' (hg'.trans (hg''.mono hg'.len)) hk'')
    exact key

end
end Go.Rf
