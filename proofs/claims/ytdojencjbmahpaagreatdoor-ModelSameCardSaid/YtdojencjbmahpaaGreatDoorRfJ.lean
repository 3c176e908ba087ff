/-
  THE SYMBOLIC EXECUTOR, part 19: regions whose order is open: what each operation does, in whatever order.
-/
import Derived.Test.YtdojencjbmahpaaGreatDoorRfI
set_option linter.unusedVariables false
set_option linter.unusedSimpArgs false
namespace Go.Rf

/-- What an operation did: its slot, its value, the places it wrote; what it touched. -/
structure Eff where
  dst : Option Nat
  v : AV
  w : List (Nat × Ent)
  f : Foot

def Eff.app (e : Eff) (s : St) : St := ⟨putT s.T e.v e.dst, putH s.H e.w⟩

structure Agree (ts ps : List Nat) (s s' : St) : Prop where
  T : s.T.length = s'.T.length
  H : s.H.length = s'.H.length
  t : ∀ t ∈ ts, s.T.getD t .junk = s'.T.getD t .junk
  p : ∀ q ∈ ps, s.H.getD q .none = s'.H.getD q .none

theorem fsts_mem {w : List (Nat × Ent)} {x : Nat × Ent} (h : x ∈ w) : x.1 ∈ fsts w := by
  induction w with
  | nil => cases h
  | cons y w ih =>
    obtain ⟨q, e⟩ := y
    simp only [fsts]
    rcases List.mem_cons.1 h with rfl | h
    · simp
    · exact List.mem_cons_of_mem _ (ih h)

section
variable {P : Program}

structure Local (P : Program) (te : TE) (Γ : GE) (all : List Oper) (o : Oper) (s : St) (e : Eff) : Prop where
  dst : e.dst = o.dst
  inb : ∀ q ∈ e.f.w, q < s.H.length
  sub : ∀ x ∈ e.w, x.1 ∈ e.f.w
  step : ∀ s', Agree (o.looksAt all.toArray) (e.f.w ++ e.f.r) s s' → ∀ {w S ρ a next Q}, RS w S ρ s' a →
    (∀ w' S' ρ' a', RS w' S' ρ' (e.app s') a' → Goes w S ρ s'.H w' S' ρ' (e.app s').H s'.H.length → next a' w') → wpStep P all.toArray o next Q a w

theorem looks_op {ops : Array Oper} {o : Oper} {t : Nat} (h : .tmp t ∈ o.op.operands) : t ∈ o.looksAt ops := by
  unfold Oper.looksAt
  exact List.mem_append_left _ (List.mem_filterMap.2 ⟨.tmp t, by simpa using h, rfl⟩)
theorem ev_agree {ops : Array Oper} {o : Oper} {ps : List Nat} {s s' : St} (h : Agree (o.looksAt ops) ps s s') (x : Operand) (hx : x ∈ o.op.operands) : ev s.T x = ev s'.T x := by
  cases x with
  | tmp t => exact h.t t (looks_op hx)
  | _ => rfl

theorem isNone_eq {e : Ent} (h : isNone e = true) : e = .none := by cases e <;> first | rfl | cases h
theorem placesIn_get {H : List Ent} : ∀ {qs : List Nat}, placesIn H qs = true → ∀ q ∈ qs, q < H.length
  | [], _, q, h => by cases h
  | x :: qs, hp, q, h => by
    obtain ⟨h1, h2⟩ := andB_true hp
    rcases List.mem_cons.1 h with rfl | h
    · have := lenLe_le h1; omega
    · exact placesIn_get h2 q h

theorem fresh_of {s s' : St} {ts ps : List Nat} {p : Nat} (ha : Agree ts ps s s') (hp : p ∈ ps) (hlt : p < s.H.length) (hn : s.H.getD p .none = .none) : Fresh s'.H p := by
  have hlt' : p < s'.H.length := by rw [← ha.H]; exact hlt
  refine ⟨Nat.le_of_lt hlt', fun _ => ?_⟩
  have := ha.p p hp
  rw [hn] at this
  rw [List.getD_eq_getElem?_getD, List.getElem?_eq_getElem hlt'] at this
  rw [List.getElem?_eq_getElem hlt']
  simpa using this.symm

/-- The run of an operation that is wanted. -/
theorem op_local {te : TE} (hte : TEok P te) {Γ : GE} (hΓ : Sound P Γ) {p : Nat} {o : Oper} {s : St} {K : KontF} (hw : wDrOp te Γ p o s.T s.H K) :
    ∃ e : Eff, e.dst = o.dst ∧ (∀ q ∈ e.f.w, q < s.H.length) ∧ (∀ x ∈ e.w, x.1 ∈ e.f.w) ∧ K (e.app s) e.f ∧
      ∀ (ops : Array Oper) s', Agree (o.looksAt ops) (e.f.w ++ e.f.r) s s' → ∀ {w S ρ a next Q}, RS w S ρ s' a →
        (∀ w' S' ρ' a', RS w' S' ρ' (e.app s') a' → Goes w S ρ s'.H w' S' ρ' (e.app s').H s'.H.length → next a' w') → o.wp P a w next Q := by
  unfold wDrOp at hw
  cases he : evOp te p s.T s.H o.op with
  | some out =>
    rw [he] at hw
    obtain ⟨c, v, wr, r, x, raw⟩ := out
    simp only [drK] at hw
    obtain ⟨hok, hw⟩ := ifB_false hw
    obtain ⟨hc, hk⟩ := condK_split hw
    have hk := rawK_sound hk
    obtain ⟨h1, h2⟩ := andB_true hok
    have hin := placesIn_get h2
    refine ⟨⟨o.dst, v, wr, ⟨p :: fsts wr, opReads s.T o.op⟩⟩, rfl, hin, fun x hx => List.mem_cons_of_mem _ (fsts_mem hx), hk, ?_⟩
    intro ops s' ha w S ρ a next Q hs hn
    have hfr := fresh_of ha (List.mem_append_left _ List.mem_cons_self) (hin p List.mem_cons_self) (isNone_eq h1)
    have he' : evOp te p s'.T s'.H o.op = some ⟨c, v, wr, r, x, raw⟩ := by
      rw [← he]
      exact (evOp_congr o.op (ev_agree ha) (fun q hq => ha.p q (List.mem_append_right _ hq))).symm
    obtain ⟨y, w', S', ρ', s1, s2, s3, s4⟩ := op_sim hte hs hfr o he' hc
    exact wp_runs s1 (hn w' S' ρ' _ (hs.step s2 s3 s4 o.dst) s4)
  | none =>
    rw [he] at hw
    simp only [drK] at hw
    unfold drSpecial at hw
    split at hw
    · rename_i f args tys ho
      cases hcal : calleeOf Γ (ev s.T f) with
      | none => rw [hcal] at hw; cases hw
      | some sp =>
        rw [hcal] at hw
        have hsp' : ∀ g, ev s.T f = .fn g → Γ g = some sp := by
          intro g hg
          rw [hg] at hcal
          exact hcal
        have key : ∃ D : DSpec, (∀ g, ev s.T f = .fn g → DSound P g D) ∧ drDat D p s.T s.H o.dst K (namesA (evs te s.T args.toList tys.toList)) (rslvL s.H (evs te s.T args.toList tys.toList)) := by
          cases sp with
          | gen G => cases hw
          | dat D => exact ⟨D, fun g hg => hΓ g _ (hsp' g hg), hw⟩
          | fn C g' =>
            refine ⟨fnD C g', fun g hg => hΓ g _ (hsp' g hg), ?_⟩
            simp only [drCall] at hw
            cases hr : rslvL s.H (evs te s.T args.toList tys.toList) with
            | none => rw [hr] at hw; cases hnm : namesA (evs te s.T args.toList tys.toList) <;> rw [hnm] at hw <;> cases hw
            | some q =>
              obtain ⟨c, xs⟩ := q
              rw [hr] at hw
              cases hnm : namesA (evs te s.T args.toList tys.toList) with
              | true => rw [hnm] at hw; cases hw
              | false =>
                rw [hnm] at hw
                exact ⟨g' xs, .none, ⟨hw.1, rfl, rfl⟩, hw.2⟩
        obtain ⟨D, hsound, hw⟩ := key
        cases hr : rslvL s.H (evs te s.T args.toList tys.toList) with
        | none => rw [hr] at hw; cases hnm : namesA (evs te s.T args.toList tys.toList) <;> rw [hnm] at hw <;> cases hw
        | some q =>
          obtain ⟨c, xs⟩ := q
          rw [hr] at hw
          cases hnm : namesA (evs te s.T args.toList tys.toList) with
          | true => rw [hnm] at hw; cases hw
          | false =>
            rw [hnm] at hw
            obtain ⟨r, en, hD, hw⟩ := hw
            obtain ⟨hok, hk⟩ := ifB_false hw
            obtain ⟨h1, h2⟩ := andB_true hok
            have hin := placesIn_get h2
            refine ⟨⟨o.dst, mvR p r, pushE p en, ⟨p :: fsts (pushE p en), []⟩⟩, rfl, hin, fun x hx => List.mem_cons_of_mem _ (fsts_mem hx), hk, ?_⟩
            intro ops s' ha w S ρ a next Q hs hn
            have hfr := fresh_of ha (List.mem_append_left _ List.mem_cons_self) (hin p List.mem_cons_self) (isNone_eq h1)
            have hop : o.op.operands = (Call.operands { callee := .value f, args := args, argTypes := tys }) := by rw [ho]; rfl
            have hef : ev s.T f = ev s'.T f := ev_agree ha f (by rw [hop]; simp [Call.operands])
            have heq : ∀ (l : List Operand) (ts : List TypeId), (∀ x ∈ l, ev s.T x = ev s'.T x) → evs te s.T l ts = evs te s'.T l ts := by
              intro l
              induction l with
              | nil => intro ts _; rfl
              | cons x l ih =>
                intro ts h
                cases ts with
                | nil => simp only [evs]; rw [h x (by simp), ih [] (fun y hy => h y (by simp [hy]))]
                | cons t ts => simp only [evs]; rw [h x (by simp), ih ts (fun y hy => h y (by simp [hy]))]
            have hargs := args_rd (te := te) hs args tys.toList
            rw [← heq args.toList tys.toList (fun x hx => ev_agree ha x (by rw [hop]; simp [Call.operands] at hx ⊢; simp [hx]))] at hargs
            obtain ⟨g, hg, hsp⟩ := calleeOf_some hcal
            have hefr := hs.ev f
            rw [← hef, hg] at hefr
            generalize hfv : a.eval f = fv at hefr
            cases hefr
            obtain ⟨i1, i2⟩ := rslvL_plain (w := w) (S := S) (ρ := ρ) _ _ _ hnm hr
            have hxs : ArgsRd w S ρ 0 xs (args.map a.eval) := ⟨by rw [hargs.1, i1], fun i x v hx hv => i2 s'.H.length i x v hx (fun b hb => hargs.2 i b v hb hv)⟩
            refine wp_call ho hfv ?_
            refine CallRuns.mono (hsound g hg w S ρ xs _ _ (fun k hk => (hs.mem.stab k hk).1) hxs hD) ?_
            rintro v w' ⟨r', en', S', ρ', ⟨rfl, rfl⟩, h2, h3, h4, h5⟩
            obtain ⟨ρ'', g1, g2, g3⟩ := after_call hs.mem h2 h3 h4 h5 hfr
            exact hn _ _ _ _ (hs.step g3 g1 g2 o.dst) g2
    · cases hw

theorem guard_looks {all : List Oper} {o : Oper} {j : Nat} {want : Bool} (hg : o.guard = some (j, want)) {d : Nat} (hd : dstAt all j = some d) : d ∈ o.looksAt all.toArray := by
  unfold Oper.looksAt
  refine List.mem_append_right _ ?_
  rw [hg]
  rw [dstAt_eq] at hd
  simp [hd]

theorem dr_local {te : TE} (hte : TEok P te) {Γ : GE} (hΓ : Sound P Γ) {all : List Oper} {p : Nat} {o : Oper} {s : St} {K : KontF} (hw : drGuard te Γ all p o s.T s.H K o.guard) : ∃ e, Local P te Γ all o s e ∧ K (e.app s) e.f := by
  cases hg : o.guard with
  | none =>
    rw [hg] at hw
    obtain ⟨e, h1, h2, h3, h4, h5⟩ := op_local hte hΓ hw
    refine ⟨e, ⟨h1, h2, h3, fun s' ha w S ρ a next Q hs hn => ?_⟩, h4⟩
    unfold wpStep
    rw [if_pos (by unfold Region.wanted; rw [hg])]
    exact .inl (h5 all.toArray s' ha hs hn)
  | some g =>
    obtain ⟨j, want⟩ := g
    rw [hg] at hw
    simp only [drGuard] at hw
    cases hd : dstAt all j with
    | none => rw [hd] at hw; cases hw
    | some d =>
      rw [hd] at hw
      simp only [drGuardD] at hw
      cases hT : s.T.getD d .junk with
      | bool b =>
        rw [hT] at hw
        have hself := set_self_of_getD hT (by simp)
        have hlk := guard_looks hg hd
        have skip : b ≠ want → K ⟨putT s.T .junk o.dst, s.H⟩ ⟨[], []⟩ → ∃ e, Local P te Γ all o s e ∧ K (e.app s) e.f := by
          intro hne hk
          refine ⟨⟨o.dst, .junk, [], ⟨[], []⟩⟩, ⟨rfl, by simp, by simp, fun s' ha w S ρ a next Q hs hn => ?_⟩, hk⟩
          unfold wpStep
          rw [guard_told hs o hg hd (by rw [← ha.t d hlk]; exact hT)]
          rw [if_neg (by simpa using hne)]
          exact hn w S ρ _ (hs.put (.junk _ _) o.dst) (Goes.refl w S ρ s'.H (Nat.le_refl _))
        have run : b = want → wDrOp te Γ p o s.T s.H K → ∃ e, Local P te Γ all o s e ∧ K (e.app s) e.f := by
          intro heq hw
          obtain ⟨e, h1, h2, h3, h4, h5⟩ := op_local hte hΓ hw
          refine ⟨e, ⟨h1, h2, h3, fun s' ha w S ρ a next Q hs hn => ?_⟩, h4⟩
          unfold wpStep
          rw [guard_told hs o hg hd (by rw [← ha.t d hlk]; exact hT)]
          rw [if_pos (by simpa using heq)]
          exact .inl (h5 all.toArray s' ha hs hn)
        cases b <;> cases want <;> simp only [drGuardV, ifB] at hw <;> rw [hself] at hw
        · exact run rfl hw
        · exact skip (by simp) hw
        · exact skip (by simp) hw
        · exact run rfl hw
      | _ => rw [hT] at hw; cases hw

/-! ### Effects, in whatever order -/
def stOf : List Eff → (Nat → Bool) → Nat → St → St
  | [], _, _, s => s
  | e :: es, L, i, s => stOf es L (i + 1) (if L i then e.app s else s)

inductive Valid (P : Program) (te : TE) (Γ : GE) (all : List Oper) : List Oper → St → List Eff → Prop
  | nil (s : St) : Valid P te Γ all [] s []
  | cons {o : Oper} {os : List Oper} {s : St} {e : Eff} {es : List Eff} (h : Local P te Γ all o s e) (t : Valid P te Γ all os (e.app s) es) : Valid P te Γ all (o :: os) s (e :: es)

theorem dr_valid {te : TE} (hte : TEok P te) {Γ : GE} (hΓ : Sound P Γ) {all : List Oper} {K : St → List Foot → Prop} : ∀ (ops : List Oper) (p : Nat) (done : List Foot) (s : St), wDr te Γ all ops p done K s →
    ∃ es, Valid P te Γ all ops s es ∧ K (stOf es (fun _ => true) 0 s) ((es.map Eff.f).reverse ++ done)
  | [], p, done, s, h => ⟨[], .nil s, h⟩
  | o :: ops, p, done, s, h => by
    simp only [wDr] at h
    obtain ⟨e, h1, h2⟩ := dr_local hte hΓ h
    obtain ⟨es, h3, h4⟩ := dr_valid hte hΓ ops (p + 1) (e.f :: done) (e.app s) h2
    refine ⟨e :: es, .cons h1 h3, ?_⟩
    have : ∀ (es : List Eff) (i j : Nat) (s : St), stOf es (fun _ => true) i s = stOf es (fun _ => true) j s := by
      intro es
      induction es with
      | nil => intro i j s; rfl
      | cons e es ih => intro i j s; simp only [stOf]; exact ih _ _ _
    simp only [stOf, if_true, List.map_cons, List.reverse_cons, List.append_assoc, List.singleton_append]
    rw [this es (0 + 1) 0]
    exact h4

end
end Go.Rf
