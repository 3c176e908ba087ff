/-
  THE SYMBOLIC EXECUTOR, part 26: functions, run with all data at hand.
-/
import Derived.Test.YtdojencjbmahpaaGreatDoorRfY
set_option linter.unusedVariables false
set_option linter.unusedSimpArgs false
namespace Go.Rf

section
variable {P : Program}

theorem xFun_sound {te : TE} (hte : TEok P te) {X : XE} (hX : Sound P X.env) (hmix : P.follows .mixedOrders = true) {f : FuncId} {fn : Func} (hf : IsFun P f fn) (hst : codeStat (fn.body.getD .skip) = true) (N : Nat) :
    GSound P f (fun args H Φ => ∃ r H', xFun te X N fn args H = some (r, H') ∧ Φ r H') := by
  intro w S ρ H xs args Φ hm hargs hw
  obtain ⟨r, H', hrun, hΦ⟩ := hw
  left
  refine ⟨run_callFunc hf args w, ?_⟩
  cases hb : fn.body with
  | none => have := hf.body; rw [hb] at this; cases this
  | some c =>
    rw [hb] at hst
    simp only [Option.getD_some] at hst
    unfold xFun at hrun
    obtain ⟨hle, hrun⟩ := whenB_some hrun
    rw [hb] at hrun
    simp only [xBody] at hrun
    have hn := leb_le hle
    cases hx : xCode te X N c ⟨padTo fn.ntmps xs, H⟩ with
    | none => rw [hx] at hrun; cases hrun
    | some q =>
      obtain ⟨e, s'⟩ := q
      rw [hx] at hrun
      refine calls_of_wp hf.at_ hb ?_
      have hs : RS w S ρ ⟨padTo fn.ntmps xs, H⟩ { tmps := args ++ Array.replicate (fn.ntmps - args.size) undef, defers := [] } := by
        refine ⟨?_, ?_, hm, rfl⟩
        · simp [padTo_length, hargs.1]; omega
        · intro i x v hx hv
          rcases padTo_get _ _ i x hx with h | rfl
          · have hi := (List.getElem?_eq_some_iff.1 h).1
            rw [Array.getElem?_append_left (by rw [hargs.1]; exact hi)] at hv
            exact hargs.2 i x v h hv
          · exact .junk _ _
      refine wp_mono (xCode_sound (w0 := w) (S0 := S) (ρ0 := ρ) (H0 := H) (fl := H.length) hte hX hmix c hst hx hs (Goes.refl w S ρ H (Nat.le_refl _))) ?_
      intro ex a' w' hq
      have fin : ∀ s S' ρ', RS w' S' ρ' s a' → Goes w S ρ H w' S' ρ' s.H H.length → xResV s.H (resV (resAll te s.T s.H fn.resultTypes.toList fn.results.toList)) = some (r, H') → a'.defers = [] ∧ ∃ v, (results fn a'.tmps).run P w' = .ok v w' ∧ GPost w S ρ H Φ v w' := by
        intro s S' ρ' h1 h2 h3
        refine ⟨h1.defers, ?_⟩
        cases hr : resV (resAll te s.T s.H fn.resultTypes.toList fn.results.toList) with
        | none => rw [hr] at h3; cases h3
        | some v =>
          rw [hr] at h3
          simp only [xResV, Option.some.injEq, Prod.mk.injEq] at h3
          obtain ⟨rfl, rfl⟩ := h3
          obtain ⟨x, k1, k2⟩ := results_sound (P := P) hte h1 fn hr
          exact ⟨x, k1, v, s.H, S', ρ', hΦ, h1.mem, k2, h2⟩
      cases ex with
      | normal => obtain ⟨s, S', ρ', h1, h2, rfl, rfl⟩ := hq; exact fin s S' ρ' h1 h2 hrun
      | ret => obtain ⟨s, S', ρ', h1, h2, rfl, rfl⟩ := hq; exact fin s S' ρ' h1 h2 hrun
      | exit i => obtain ⟨s, S', ρ', h1, h2, rfl, rfl⟩ := hq; cases hrun
      | _ => exact hq.elim

/-- From a contract on the memory to one on data. -/
theorem dat_of_gen {f : FuncId} {G : GSpec} (hG : GSound P f G) {D : DSpec} (hD : ∀ xs Φ, D xs Φ → G xs [] (datFin Φ)) : DSound P f D := by
  intro w S ρ xs args Φ hS hargs hd
  have hno : ∀ (ρ : Reg) k, ¬ Own ρ [] k := by rintro ρ k ⟨p, e, he, _⟩; simp at he
  have hm : RH w S ρ [] := ⟨by simp, by simp, fun k hk => ⟨hS k hk, hno ρ k⟩⟩
  refine CallRuns.mono (hG w S ρ [] xs args _ hm hargs (hD xs Φ hd)) ?_
  rintro v w' ⟨r, H', S', ρ', h1, h2, h3, h4⟩
  unfold datFin at h1
  cases hr : rslvR H' r with
  | none => rw [hr] at h1; cases h1
  | some q =>
    obtain ⟨c, x⟩ := q
    rw [hr] at h1
    obtain ⟨hc, hΦ⟩ := condK_split h1
    refine ⟨x, .none, lent S' ρ' H', ρ', hΦ, trivial, ⟨by simp [entL], by simp [entL], fun k hk => ⟨?_, hno ρ' k⟩⟩, rslvR_rd h2 h3 hr hc 0, ?_⟩
    · rcases hk with hk | hk
      · exact (h2.stab k hk).1
      · exact h2.own_lt hk
    · refine ⟨h4.os, h4.tape, h4.output, h4.size, fun k hk _ => h4.keep k hk (hno ρ k), fun k hk => absurd hk (hno ρ' k), fun k hk => .inl (h4.up k hk), ?_, Nat.zero_le _, fun p hp => absurd hp (by omega)⟩
      rintro k (hk | hk)
      · rcases h4.down k hk with h | h | h
        · exact .inl h
        · exact absurd h (hno ρ k)
        · exact .inr (.inr h)
      · rcases h4.own k hk with h | h
        · exact absurd h (hno ρ k)
        · exact .inr (.inr h)

theorem xDat_sound {te : TE} (hte : TEok P te) {X : XE} (hX : Sound P X.env) (hmix : P.follows .mixedOrders = true) {f : FuncId} {fn : Func} (hf : IsFun P f fn) (hst : codeStat (fn.body.getD .skip) = true) (N : Nat) :
    SpecSound P f (XS.spec (.dat (xDatF te X N fn))) := by
  refine dat_of_gen (xFun_sound hte hX hmix hf hst N) ?_
  rintro xs Φ ⟨x, e, hx, hΦ⟩
  unfold xDatF at hx
  cases hr : xFun te X N fn xs [] with
  | none => rw [hr] at hx; cases hx
  | some q =>
    obtain ⟨r, H'⟩ := q
    rw [hr] at hx
    simp only [xOut] at hx
    refine ⟨r, H', rfl, ?_⟩
    unfold datFin
    cases hq : rslvR H' r with
    | none => rw [hq] at hx; cases hx
    | some p =>
      obtain ⟨c, y⟩ := p
      rw [hq] at hx
      simp only [xRes] at hx
      cases hk : okC c with
      | false => rw [hk] at hx; cases hx
      | true =>
        rw [hk] at hx
        simp only [whenB, noE, Option.some.injEq, Prod.mk.injEq] at hx
        obtain ⟨rfl, rfl⟩ := hx
        exact condK_mk (okC_true hk) hΦ
theorem xGen_sound {te : TE} (hte : TEok P te) {X : XE} (hX : Sound P X.env) (hmix : P.follows .mixedOrders = true) {f : FuncId} {fn : Func} (hf : IsFun P f fn) (hst : codeStat (fn.body.getD .skip) = true) (N : Nat) :
    SpecSound P f (XS.spec (.gen (xFun te X N fn))) := xFun_sound hte hX hmix hf hst N

end
end Go.Rf
