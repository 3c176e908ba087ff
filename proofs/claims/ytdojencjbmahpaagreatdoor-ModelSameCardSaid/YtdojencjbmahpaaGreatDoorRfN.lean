/-
  THE SYMBOLIC EXECUTOR, part 23: code, and functions.
-/
import Derived.Test.YtdojencjbmahpaaGreatDoorRfM
set_option linter.unusedVariables false
set_option linter.unusedSimpArgs false
namespace Go.Rf

theorem eqb_ne {n m : Nat} (h : eqb n m = false) : n ≠ m := by
  rintro rfl
  have : ∀ n, eqb n n = true := by intro n; induction n with | zero => rfl | succ n ih => exact ih
  rw [this] at h; cases h

section
variable {P : Program} {w0 : World} {S0 : Nat → Prop} {ρ0 : Reg} {H0 : List Ent} {fl : Nat}

/-- What is wanted at the end of a piece of code, at the machine. -/
def SatX (w0 : World) (S0 : Nat → Prop) (ρ0 : Reg) (H0 : List Ent) (fl : Nat) (Q : KontX) : Exit → Act → World → Prop
  | .normal, a, w => ∃ s S ρ, RS w S ρ s a ∧ Goes w0 S0 ρ0 H0 w S ρ s.H fl ∧ Q .normal s
  | .exit i, a, w => ∃ s S ρ, RS w S ρ s a ∧ Goes w0 S0 ρ0 H0 w S ρ s.H fl ∧ Q (.exit i) s
  | .ret, a, w => ∃ s S ρ, RS w S ρ s a ∧ Goes w0 S0 ρ0 H0 w S ρ s.H fl ∧ Q .ret s
  | _, _, _ => False

theorem maskT_get : ∀ (keep : List Bool) (T : List AV) (i : Nat) (x : AV), (maskT keep T)[i]? = some x → ∃ y, T[i]? = some y ∧ (x = y ∨ x = .junk)
  | [], [], i, x, h => by simp [maskT] at h
  | true :: k, [], i, x, h => by simp [maskT] at h
  | false :: k, [], i, x, h => by simp [maskT] at h
  | [], v :: T, 0, x, h => by simp [maskT] at h; exact ⟨v, rfl, .inr h.symm⟩
  | true :: k, v :: T, 0, x, h => by simp [maskT] at h; exact ⟨v, rfl, .inl h.symm⟩
  | false :: k, v :: T, 0, x, h => by simp [maskT] at h; exact ⟨v, rfl, .inr h.symm⟩
  | [], v :: T, i + 1, x, h => by simpa using maskT_get [] T i x (by simpa [maskT] using h)
  | true :: k, v :: T, i + 1, x, h => by simpa using maskT_get k T i x (by simpa [maskT] using h)
  | false :: k, v :: T, i + 1, x, h => by simpa using maskT_get k T i x (by simpa [maskT] using h)
theorem maskT_length : ∀ (keep : List Bool) (T : List AV), (maskT keep T).length = T.length
  | [], [] => rfl
  | true :: k, [] => rfl
  | false :: k, [] => rfl
  | [], v :: T => congrArg (· + 1) (maskT_length [] T)
  | true :: k, v :: T => congrArg (· + 1) (maskT_length k T)
  | false :: k, v :: T => congrArg (· + 1) (maskT_length k T)
theorem belowT_get {n : Nat} : ∀ {T : List AV}, belowT n T = true → ∀ (i : Nat) (x : AV), T[i]? = some x → Rf.below n x = true
  | [], _, i, x, h => by simp at h
  | v :: T, hb, i, x, h => by
    obtain ⟨h1, h2⟩ := andB_true hb
    cases i with
    | zero => simp at h; subst h; exact h1
    | succ i => exact belowT_get h2 i x (by simpa using h)
theorem belowH_get {n : Nat} : ∀ {H : List Ent}, belowH n H = true → ∀ (i : Nat) (e : Ent), H[i]? = some e → belowE n e = true
  | [], _, i, x, h => by simp at h
  | v :: T, hb, i, x, h => by
    obtain ⟨h1, h2⟩ := andB_true hb
    cases i with
    | zero => simp at h; subst h; exact h1
    | succ i => exact belowH_get h2 i x (by simpa using h)

theorem RS.cut {w : World} {S : Nat → Prop} {ρ : Reg} {s : St} {a : Act} (hs : RS w S ρ s a) {keep : List Bool} {nh : Nat} (hc : cutOK keep nh s = true) : RS w S ρ (Rf.cut keep nh s) a ∧
    (Goes w0 S0 ρ0 H0 w S ρ s.H fl → fl ≤ nh → Goes w0 S0 ρ0 H0 w S ρ (Rf.cut keep nh s).H fl) := by
  obtain ⟨h1, h2⟩ := andB_true hc
  obtain ⟨h3, h4⟩ := andB_true h2
  have hle := lenLe_le h1
  have hlen : (takeL nh s.H).length = nh := by rw [takeL_eq, List.length_take]; omega
  have hget : ∀ p e, (takeL nh s.H)[p]? = some e → p < nh ∧ s.H[p]? = some e := by
    intro p e h
    rw [takeL_eq, List.getElem?_take] at h
    split at h
    · rename_i hp; exact ⟨hp, h⟩
    · cases h
  have hown : ∀ k, Own ρ (takeL nh s.H) k → Own ρ s.H k := by
    rintro k ⟨p, e, he, hl, hk⟩
    exact ⟨p, e, (hget p e he).2, hl, hk⟩
  refine ⟨⟨by rw [hs.size]; exact (maskT_length keep s.T).symm, ?_, ⟨?_, ?_, ?_⟩, hs.defers⟩, fun hg hfl => { hg with own := fun k hk => hg.own k (hown k hk), down := fun k hk => hg.down k hk, len := by show fl ≤ (takeL nh s.H).length; omega }⟩
  · intro i x v hx hv
    show Rd w S ρ (takeL nh s.H).length x v
    rw [hlen]
    obtain ⟨y, hy, hxy⟩ := maskT_get keep s.T i x hx
    rcases hxy with rfl | rfl
    · exact (hs.tmp i x v hy hv).under (belowT_get h3 i x hx)
    · exact .junk _ _
  · intro p e he
    show EntRd w S ρ (takeL nh s.H).length p e
    rw [hlen]
    have hb := belowH_get h4 p e he
    have hent := hs.mem.ent p e (hget p e he).2
    cases e with
    | none => exact hent
    | var cells =>
      obtain ⟨k0, cs, ty, k1, k2, k3, k4⟩ := hent
      exact ⟨k0, cs, ty, k1, k2, k3, fun i x v hx hv => (k4 i x v hx hv).under (belowT_get hb i x hx)⟩
    | arr cl ver sz cap es =>
      have hcl : cl = true := hb
      subst hcl
      exact hent
  · intro p q e f hp hq hlp hlq hne
    exact hs.mem.apart p q e f (hget p e hp).2 (hget q f hq).2 hlp hlq hne
  · intro k hk
    exact ⟨(hs.mem.stab k hk).1, fun ho => (hs.mem.stab k hk).2 (hown k ho)⟩

theorem code_sound {te : TE} (hte : TEok P te) {Γ : GE} (hΓ : Sound P Γ) (hmix : P.follows .mixedOrders = true) : ∀ (c : Code) {s : St} {Q : KontX} {w : World} {S : Nat → Prop} {ρ : Reg} {a : Act}, wCode te Γ fl c s Q → RS w S ρ s a → Goes w0 S0 ρ0 H0 w S ρ s.H fl →
    c.wp P (SatX w0 S0 ρ0 H0 fl Q) a w := by
  intro c
  induction c with
  | skip => intro s Q w S ρ a hw hs hg; exact wp_skip ⟨s, S, ρ, hs, hg, hw⟩
  | ret => intro s Q w S ρ a hw hs hg; exact wp_ret ⟨s, S, ρ, hs, hg, hw⟩
  | exit i => intro s Q w S ρ a hw hs hg; exact wp_exit ⟨s, S, ρ, hs, hg, hw⟩
  | region id ops dr =>
    intro s Q w S ρ a hw hs hg
    have hn : ∀ w' S' ρ' s' a', RS w' S' ρ' s' a' → Goes w S ρ s.H w' S' ρ' s'.H s.H.length → kNormal Q s' → SatX w0 S0 ρ0 H0 fl Q .normal a' w' := fun w' S' ρ' s' a' hs' hg' hk => ⟨s', S', ρ', hs', hg.trans (hg'.mono hg.len), hk⟩
    cases dr with
    | false =>
      have := wSeq_sound hte hΓ ops.toList [] (Q := SatX w0 S0 ρ0 H0 fl Q) rfl hs hw hn
      refine wp_region ?_
      rw [List.range_eq_range']
      simpa using this
    | true => exact draw_sound hte hΓ hmix hw hs hn
  | seq x y ihx ihy =>
    intro s Q w S ρ a hw hs hg
    refine wp_seq (wp_mono (ihx hw hs hg) ?_)
    intro e a' w' hq
    cases e with
    | normal => obtain ⟨s', S', ρ', h1, h2, h3⟩ := hq; exact ihy h3 h1 h2
    | exit i => exact hq
    | ret => exact hq
    | _ => exact hq.elim
  | cond c x y ihx ihy =>
    intro s Q w S ρ a hw hs hg
    simp only [wCode] at hw
    have hc := hs.ev c
    generalize hev : ev s.T c = cv at hw hc
    generalize hvc : a.eval c = v at hc
    cases cv <;> simp only [condV] at hw
    rename_i b
    cases hc
    refine wp_cond hvc ?_
    cases b with
    | true => exact ihx hw hs hg
    | false => exact ihy hw hs hg
  | block id c ih =>
    intro s Q w S ρ a hw hs hg
    refine wp_block (wp_mono (ih hw hs hg) ?_)
    intro e a' w' hq
    cases e with
    | normal => exact hq
    | ret => exact hq
    | exit i =>
      obtain ⟨s', S', ρ', h1, h2, h3⟩ := hq
      simp only [blkQ] at h3
      simp only [Exit.inBlock]
      cases hb : eqb i id with
      | true =>
        rw [hb] at h3
        rw [if_pos (eqb_eq hb)]
        exact ⟨s', S', ρ', h1, h2, h3⟩
      | false =>
        rw [hb] at h3
        rw [if_neg (eqb_ne hb)]
        exact ⟨s', S', ρ', h1, h2, h3⟩
    | _ => exact hq.elim
  | loop c ih =>
    intro s Q w S ρ a hw hs hg
    simp only [wCode] at hw
    obtain ⟨keep, nh, I, hfl, ⟨hcut, n, hI⟩, hround⟩ := hw
    let Good : Nat → Act → World → Prop := fun n a w => ∃ s1 S ρ, RS w S ρ s1 a ∧ Goes w0 S0 ρ0 H0 w S ρ s1.H fl ∧ I n s1
    have hmin : ∀ a w, (∃ n, Good n a w) → ∃ n, Good n a w ∧ ∀ m, Good m a w → n ≤ m := by
      rintro a w ⟨n, hn⟩
      induction n using Nat.strongRecOn with
      | _ n ihn =>
        by_cases hex : ∃ m, m < n ∧ Good m a w
        · obtain ⟨m, hm, hg'⟩ := hex; exact ihn m hm hg'
        · exact ⟨n, hn, fun m hm => by
            rcases Nat.lt_or_ge m n with h | h
            · exact absurd ⟨m, h, hm⟩ hex
            · exact h⟩
    let μ : Act → World → Nat := fun a w => Classical.epsilon fun n => Good n a w ∧ ∀ m, Good m a w → n ≤ m
    have hμ : ∀ a w, (∃ n, Good n a w) → Good (μ a w) a w ∧ ∀ m, Good m a w → μ a w ≤ m := fun a w h => Classical.epsilon_spec (p := fun n => Good n a w ∧ ∀ m, Good m a w → n ≤ m) (hmin a w h)
    refine wp_loop (fun a w => ∃ n, Good n a w) μ ?_ ?_
    · obtain ⟨c1, c2⟩ := hs.cut (w0 := w0) (S0 := S0) (ρ0 := ρ0) (H0 := H0) (fl := fl) hcut
      exact ⟨n, _, S, ρ, c1, c2 hg hfl, hI⟩
    · intro a' w' hex
      obtain ⟨⟨s1, S1, ρ1, r1, r2, r3⟩, _⟩ := hμ a' w' hex
      refine wp_mono (ih (hround _ s1 r3) r1 r2) ?_
      intro e a'' w'' hq
      cases e with
      | normal =>
        obtain ⟨s', S', ρ', h1, h2, ⟨h3, m, h4, h5⟩⟩ := hq
        obtain ⟨c1, c2⟩ := h1.cut (w0 := w0) (S0 := S0) (ρ0 := ρ0) (H0 := H0) (fl := fl) h3
        have hgood : Good m a'' w'' := ⟨_, S', ρ', c1, c2 h2 hfl, h5⟩
        exact ⟨⟨m, hgood⟩, Nat.lt_of_le_of_lt ((hμ a'' w'' ⟨m, hgood⟩).2 m hgood) h4⟩
      | exit i =>
        obtain ⟨s', S', ρ', h1, h2, h3, h4⟩ := hq
        obtain ⟨c1, c2⟩ := h1.cut (w0 := w0) (S0 := S0) (ρ0 := ρ0) (H0 := H0) (fl := fl) h3
        exact ⟨_, S', ρ', c1, c2 h2 hfl, h4⟩
      | ret => exact hq
      | _ => exact hq.elim
  | _ => intro s Q w S ρ a hw hs hg; exact hw.elim

/-! ### Functions -/
theorem padTo_length : ∀ (n : Nat) (l : List AV), (padTo n l).length = n
  | 0, l => by cases l <;> rfl
  | n + 1, [] => congrArg (· + 1) (padTo_length n [])
  | n + 1, v :: vs => congrArg (· + 1) (padTo_length n vs)
theorem padTo_get : ∀ (n : Nat) (l : List AV) (i : Nat) (x : AV), (padTo n l)[i]? = some x → l[i]? = some x ∨ x = .junk
  | 0, l, i, x, h => by cases l <;> simp [padTo] at h
  | n + 1, [], 0, x, h => by simp [padTo] at h; exact .inr h.symm
  | n + 1, [], i + 1, x, h => by
    rcases padTo_get n [] i x (by simpa [padTo] using h) with h | h
    · simp at h
    · exact .inr h
  | n + 1, v :: vs, 0, x, h => by simp [padTo] at h; exact .inl (by simp [h])
  | n + 1, v :: vs, i + 1, x, h => by simpa using padTo_get n vs i x (by simpa [padTo] using h)

theorem consO_some {a : Option AV} {b : Option (List AV)} {vs : List AV} (h : consO a b = some vs) : ∃ v us, a = some v ∧ b = some us ∧ vs = v :: us := by
  unfold consO at h
  split at h
  · cases h; exact ⟨_, _, rfl, rfl, rfl⟩
  · cases h

def resRun (tmps : Array Value) : ResultVar → Sem Value
  | .tmp i => Pure.pure (tmps.getD i undef)
  | .cell p ty => do loadVar ty (← asAddr (tmps.getD p undef))
theorem results_eq (fn : Func) (tmps : Array Value) : results fn tmps = (do let vs ← fn.results.mapM (resRun tmps); Pure.pure (if h : vs.size = 1 then vs[0] else .tuple vs)) := by
  unfold results
  rfl
theorem res_one {te : TE} (hte : TEok P te) {w : World} {S : Nat → Prop} {ρ : Reg} {s : St} {a : Act} (hs : RS w S ρ s a) {t : TypeId} {r : ResultVar} {v : AV} (h : resOne te s.T s.H t r = some v) :
    ∃ x, (resRun a.tmps r).run P w = .ok x w ∧ Rd w S ρ s.H.length v x := by
  cases r with
  | tmp i =>
    simp only [resOne, Option.some.injEq] at h
    subst h
    exact ⟨_, rfl, (hs.ev (.tmp i)).rty⟩
  | cell p ty =>
    simp only [resOne] at h
    cases hi : te ty with
    | none => rw [hi] at h; cases h
    | some i =>
      rw [hi] at h
      obtain ⟨inf, d, z, hf⟩ := hte.get hi
      simp only [evLoadT] at h
      have hp := hs.ev (.tmp p)
      simp only [ev] at hp
      generalize hev : evLoad s.H i.kind.isAgg i.size (s.T.getD p .junk) = out at h
      cases out with
      | none => cases h
      | some out =>
        obtain ⟨c, v', wr, r', x, raw⟩ := out
        cases c with
        | some c => cases h
        | none =>
          cases raw with
          | true => cases h
          | false =>
            simp only [outV, Option.some.injEq] at h
            subst h
            obtain ⟨h1, y, h2, h3⟩ := load_var (P := P) hs.mem hf hp hev trivial
            refine ⟨y, ?_, h3⟩
            have : a.eval (.tmp p) = a.tmps.getD p undef := rfl
            rw [this] at h2
            cases hA : a.tmps.getD p undef with
            | pointer A =>
              cases A with
              | some A =>
                rw [hA] at h2
                show (do loadVar ty (← asAddr (a.tmps.getD p undef)) : Sem Value).run P w = _
                rw [hA]
                exact h2
              | none => rw [hA] at h2; cases h2
            | _ => rw [hA] at h2; cases h2

theorem res_all {te : TE} (hte : TEok P te) {w : World} {S : Nat → Prop} {ρ : Reg} {s : St} {a : Act} (hs : RS w S ρ s a) : ∀ (rs : List ResultVar) (ts : List TypeId) (vs : List AV), resAll te s.T s.H ts rs = some vs →
    ∃ xs : List Value, (rs.mapM (resRun a.tmps)).run P w = .ok xs w ∧ vs.length = xs.length ∧ ∀ (i : Nat) (v : AV) (x : Value), vs[i]? = some v → xs[i]? = some x → Rd w S ρ s.H.length v x
  | [], ts, vs, h => by
    have : vs = [] := by cases ts <;> (simp only [resAll, Option.some.injEq] at h; exact h.symm)
    subst this
    exact ⟨[], rfl, rfl, by simp⟩
  | r :: rs, [], vs, h => by simp [resAll] at h
  | r :: rs, t :: ts, vs, h => by
    simp only [resAll] at h
    obtain ⟨v, us, h1, h2, rfl⟩ := consO_some h
    obtain ⟨x, k1, k2⟩ := res_one hte hs h1
    obtain ⟨xs, k3, k4, k5⟩ := res_all hte hs rs ts us h2
    refine ⟨x :: xs, ?_, by simp [k4], ?_⟩
    · rw [List.mapM_cons, Sem.run_bind, k1, Result.andThen_ok, Sem.run_bind, k3]; rfl
    · intro i v' x' hv hx
      cases i with
      | zero => simp at hv hx; subst hv; subst hx; exact k2
      | succ i => exact k5 i v' x' (by simpa using hv) (by simpa using hx)

theorem results_sound {te : TE} (hte : TEok P te) {w : World} {S : Nat → Prop} {ρ : Reg} {s : St} {a : Act} (hs : RS w S ρ s a) (fn : Func) {v : AV} (h : resV (resAll te s.T s.H fn.resultTypes.toList fn.results.toList) = some v) :
    ∃ x, (results fn a.tmps).run P w = .ok x w ∧ Rd w S ρ s.H.length v x := by
  cases hr : resAll te s.T s.H fn.resultTypes.toList fn.results.toList with
  | none => rw [hr] at h; cases h
  | some vs =>
    rw [hr] at h
    obtain ⟨xs, k1, k2, k3⟩ := res_all (P := P) hte hs _ _ _ hr
    have hrun : (results fn a.tmps).run P w = .ok (if h : xs.toArray.size = 1 then xs.toArray[0] else .tuple xs.toArray) w := by
      rw [results_eq, Array.mapM_eq_mapM_toList]
      simp only [Sem.run_bind, Sem.run_map, k1, Result.andThen_ok, Sem.run_pure]
    cases vs with
    | nil =>
      cases xs with
      | cons => simp at k2
      | nil =>
        simp only [resV, Option.some.injEq] at h
        subst h
        exact ⟨_, hrun, .tup _ [] [] rfl (by simp)⟩
    | cons v1 vs =>
      cases xs with
      | nil => simp at k2
      | cons x1 xs =>
        cases vs with
        | nil =>
          cases xs with
          | cons => simp at k2
          | nil =>
            simp only [resV, Option.some.injEq] at h
            subst h
            exact ⟨_, hrun, k3 0 v1 x1 rfl rfl⟩
        | cons v2 vs =>
          simp only [resV, Option.some.injEq] at h
          subst h
          refine ⟨_, hrun, ?_⟩
          cases xs with
          | nil => simp at k2
          | cons x2 xs =>
            rw [dif_neg (by simp)]
            exact .tup _ _ _ k2 k3

/-- A function that has a body. -/
structure IsFun (P : Program) (f : FuncId) (fn : Func) : Prop where
  at_ : P.funcs[f]? = some fn
  body : fn.body.isSome = true
  name : (fn.name == "runtime.NumGoroutine") = false

theorem run_callFunc {f : FuncId} {fn : Func} (h : IsFun P f fn) (args : Array Value) (w : World) : (callFunc f args).run P w = .ok (.enter f args) w := by
  have hb : fn.body.isNone = false := by
    have := h.body
    cases hb : fn.body <;> simp_all
  simp only [callFunc, Sem.run_bind, run_program, Result.andThen_ok, h.at_, h.name, hb, Bool.false_eq_true, if_false, Sem.run_pure]

theorem fun_sound {te : TE} (hte : TEok P te) {Γ : GE} (hΓ : Sound P Γ) (hmix : P.follows .mixedOrders = true) {f : FuncId} {fn : Func} (hf : IsFun P f fn) : GSound P f (wFun te Γ fn) := by
  intro w S ρ H xs args Φ hm hargs hw
  left
  refine ⟨run_callFunc hf args w, ?_⟩
  cases hb : fn.body with
  | none => have := hf.body; rw [hb] at this; cases this
  | some c =>
    unfold wFun at hw
    cases hle : leb xs.length fn.ntmps with
    | false => rw [hle] at hw; cases hw
    | true =>
      rw [hle] at hw
      simp only [wFunB, hb, wBody] at hw
      have hn := leb_le hle
      refine calls_of_wp hf.at_ hb ?_
      have hs : RS w S ρ ⟨padTo fn.ntmps xs, H⟩ { tmps := args ++ Array.replicate (fn.ntmps - args.size) undef, defers := [] } := by
        refine ⟨?_, ?_, hm, rfl⟩
        · simp [padTo_length, hargs.1]; omega
        · intro i x v hx hv
          rcases padTo_get _ _ i x hx with h | rfl
          · have hi := (List.getElem?_eq_some_iff.1 h).1
            rw [Array.getElem?_append_left (by rw [hargs.1]; exact hi)] at hv
            exact hargs.2 i x v h hv
          · exact .junk _ _
      refine wp_mono (code_sound (w0 := w) (S0 := S) (ρ0 := ρ) (H0 := H) (fl := H.length) hte hΓ hmix c hw hs (Goes.refl w S ρ H (Nat.le_refl _))) ?_
      intro e a' w' hq
      have fin : ∀ s S' ρ', RS w' S' ρ' s a' → Goes w S ρ H w' S' ρ' s.H H.length → resK Φ s.H (resV (resAll te s.T s.H fn.resultTypes.toList fn.results.toList)) → a'.defers = [] ∧ ∃ v, (results fn a'.tmps).run P w' = .ok v w' ∧ GPost w S ρ H Φ v w' := by
        intro s S' ρ' h1 h2 h3
        refine ⟨h1.defers, ?_⟩
        cases hr : resV (resAll te s.T s.H fn.resultTypes.toList fn.results.toList) with
        | none => rw [hr] at h3; cases h3
        | some v =>
          rw [hr] at h3
          obtain ⟨x, k1, k2⟩ := results_sound (P := P) hte h1 fn hr
          exact ⟨x, k1, v, s.H, S', ρ', h3, h1.mem, k2, h2⟩
      cases e with
      | normal => obtain ⟨s, S', ρ', h1, h2, h3⟩ := hq; exact fin s S' ρ' h1 h2 h3
      | ret => obtain ⟨s, S', ρ', h1, h2, h3⟩ := hq; exact fin s S' ρ' h1 h2 h3
      | exit i => obtain ⟨s, S', ρ', h1, h2, h3⟩ := hq; exact h3.elim
      | _ => exact hq.elim

/-- A function under a contract on data. -/
theorem dat_sound {te : TE} (hte : TEok P te) {Γ : GE} (hΓ : Sound P Γ) (hmix : P.follows .mixedOrders = true) {f : FuncId} {fn : Func} (hf : IsFun P f fn) {D : DSpec} (hD : ∀ xs Φ, D xs Φ → wFun te Γ fn xs [] (datFin Φ)) : DSound P f D := by
  intro w S ρ xs args Φ hS hargs hd
  have hno : ∀ (ρ : Reg) k, ¬ Own ρ [] k := by rintro ρ k ⟨p, e, he, _⟩; simp at he
  have hm : RH w S ρ [] := ⟨by simp, by simp, fun k hk => ⟨hS k hk, hno ρ k⟩⟩
  refine CallRuns.mono (fun_sound hte hΓ hmix hf w S ρ [] xs args _ hm hargs (hD xs Φ hd)) ?_
  rintro v w' ⟨r, H', S', ρ', h1, h2, h3, h4⟩
  unfold datFin at h1
  cases hr : rslvR H' r with
  | none => rw [hr] at h1; cases h1
  | some q =>
    obtain ⟨c, x⟩ := q
    rw [hr] at h1
    obtain ⟨hc, hΦ⟩ := condK_split h1
    refine ⟨x, .none, lent S' ρ' H', ρ', hΦ, trivial, ⟨by simp [entL], by simp [entL], fun k hk => ⟨?_, hno ρ' k⟩⟩, rslvR_rd h2 h3 hr hc 0, ?_⟩
    · rcases hk with hk | hk
      · exact (h2.stab k hk).1
      · exact h2.own_lt hk
    · refine ⟨h4.os, h4.tape, h4.output, h4.size, fun k hk _ => h4.keep k hk (hno ρ k), fun k hk => absurd hk (hno ρ' k), fun k hk => .inl (h4.up k hk), ?_, Nat.zero_le _, fun p hp => absurd hp (by omega)⟩
      rintro k (hk | hk)
      · rcases h4.down k hk with h | h | h
        · exact .inl h
        · exact absurd h (hno ρ k)
        · exact .inr (.inr h)
      · rcases h4.own k hk with h | h
        · exact absurd h (hno ρ k)
        · exact .inr (.inr h)

end
end Go.Rf
