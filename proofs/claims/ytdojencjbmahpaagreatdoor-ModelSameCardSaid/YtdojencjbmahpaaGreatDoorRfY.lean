/-
  THE SYMBOLIC EXECUTOR, part 25: the executable form is sound.
-/
import Derived.Test.YtdojencjbmahpaaGreatDoorRfX
set_option linter.unusedVariables false
set_option linter.unusedSimpArgs false
namespace Go.Rf

section
variable {P : Program} {w : World} {S : Nat → Prop} {ρ : Reg}

theorem okC_true {c : Option DP} (h : okC c = true) : condK c True := by
  cases c with
  | none => trivial
  | some c =>
    simp only [okC] at h
    cases hd : c.d with
    | isTrue hp => exact ⟨hp, trivial⟩
    | isFalse hp => rw [hd] at h; cases h
theorem whenB_some {α : Type} {b : Bool} {x : Option α} {y : α} (h : whenB b x = some y) : b = true ∧ x = some y := by cases b with | true => exact ⟨rfl, h⟩ | false => cases h
theorem condK_mk {c : Option DP} {K : Prop} (h : condK c True) (hk : K) : condK c K := by
  cases c with
  | none => exact hk
  | some c => exact ⟨h.1, hk⟩
theorem scalar1B_true {v : AV} (h : scalar1B v = true) : scalar1 v := by cases v <;> first | trivial | cases h
theorem scalarLB_true : ∀ {vs : List AV}, scalarLB vs = true → scalarL vs
  | [], _ => trivial
  | v :: vs, h => ⟨scalar1B_true (andB_true h).1, scalarLB_true (andB_true h).2⟩
theorem scalarB_true {v : AV} (h : scalarB v = true) : scalar v := by
  cases v <;> first | trivial | exact scalarLB_true h | cases h
theorem sameB_eq {a b : Bool} : sameB a b = (a == b) := by cases a <;> cases b <;> rfl

theorem env_callee {X : XE} {v : AV} {x : XS} (h : xCallee X v = some x) : calleeOf X.env v = some x.spec := by
  cases v <;> simp only [xCallee, reduceCtorEq] at h
  simp only [calleeOf, XE.env, h]

theorem xSpecial_sound {te : TE} {X : XE} {s s' : St} {dst : Option Nat} {op : Op} (h : xSpecial te X s dst op = some s') {K : Kont} (hk : K s') : wSpecial te X.env s.T s.H dst K op := by
  have hK : ∀ z, z = s' → K z := fun z hz => by rw [hz]; exact hk
  unfold xSpecial at h
  unfold wSpecial
  split at h
  · rename_i f args tys
    cases hc : xCallee X (ev s.T f) with
    | none => rw [hc] at h; cases h
    | some x =>
      rw [hc] at h
      simp only [env_callee hc]
      cases x with
      | gen g =>
        simp only [xCall, XS.spec, wCall] at h ⊢
        cases hg : g (evs te s.T args.toList tys.toList) s.H with
        | none => rw [hg] at h; cases h
        | some q =>
          obtain ⟨r, H'⟩ := q
          rw [hg] at h
          simp only [putXg, Option.some.injEq] at h
          exact ⟨r, H', rfl, hK _ h⟩
      | dat g =>
        simp only [xCall, XS.spec, wCall] at h ⊢
        cases hr : rslvL s.H (evs te s.T args.toList tys.toList) with
        | none => rw [hr] at h; cases hn : namesA (evs te s.T args.toList tys.toList) <;> rw [hn] at h <;> cases h
        | some q =>
          obtain ⟨c, xs⟩ := q
          rw [hr] at h
          cases hn : namesA (evs te s.T args.toList tys.toList) with
          | false =>
            rw [hn] at h
            simp only [xDatCall] at h
            simp only [wDat]
            cases hg : g xs with
            | none => rw [hg] at h; cases h
            | some x =>
              obtain ⟨x, e⟩ := x
              rw [hg] at h
              simp only [putX, Option.some.injEq] at h
              exact ⟨x, e, rfl, hK _ h⟩
          | true =>
            rw [hn] at h
            simp only [xDatCall] at h
            obtain ⟨h1, h2⟩ := whenB_some h
            simp only [wDat]
            refine condK_mk (okC_true h1) ?_
            cases hg : g xs with
            | none => rw [hg] at h2; cases h2
            | some x =>
              obtain ⟨x, e⟩ := x
              rw [hg] at h2
              cases e with
              | none =>
                simp only [putXs] at h2
                obtain ⟨h3, h4⟩ := whenB_some h2
                simp only [Option.some.injEq] at h4
                exact ⟨x, .none, rfl, ⟨scalarB_true h3, rfl⟩, hK _ h4⟩
              | _ => cases h2
  · rename_i b args tys
    unfold xBuiltin at h
    split at h
    · rename_i x y t u hargs htys
      show wBuiltin te s.T s.H (kSt s.T s.H dst K) .append args.toList tys.toList
      rw [hargs, htys]
      simp only [wBuiltin]
      cases hi : elemI te (te t) with
      | none => rw [hi] at h; cases h
      | some i =>
        rw [hi] at h
        simp only [xApp, xApp2] at h
        simp only [wApp, wApp2]
        have hput : ∀ o, putO s dst o = some s' → outK (kSt s.T s.H dst K) o := by
          intro o ho
          cases o with
          | none => cases ho
          | some out =>
            obtain ⟨c, v, wr, r, x, raw⟩ := out
            simp only [putO] at ho
            obtain ⟨h1, h2⟩ := whenB_some ho
            simp only [Option.some.injEq] at h2
            exact condK_mk (okC_true h1) (hK _ h2)
        cases ho : putO s dst (evAppendIn s.H i.size (ev s.T x) (appArg s.H i (te u) (ev s.T y))) with
        | some z =>
          rw [ho] at h
          simp only [orO, Option.some.injEq] at h
          subst h
          exact .inl (hput _ ho)
        | none =>
          rw [ho] at h
          exact .inr (hput _ h)
    · cases h
  · rename_i op t x y ty
    have hnil : ∀ neq nil, whenB nil (xNil s dst neq (ev s.T x)) = some s' → wNilK neq (ev s.T x) (kSt s.T s.H dst K) nil := by
      intro neq nil h
      obtain ⟨rfl, h2⟩ := whenB_some h
      simp only [wNilK]
      unfold xNil at h2
      split at h2
      · rename_i e es hx
        simp only [Option.some.injEq] at h2
        rw [hx]
        intro b hb
        cases b with
        | true => cases hb rfl
        | false => exact hK _ h2
      · rename_i n hx
        simp only [Option.some.injEq] at h2
        rw [hx]
        intro b hb
        cases b with
        | true => cases hb rfl
        | false => exact hK _ h2
      · cases h2
    cases op <;> simp only [xBin] at h <;> simp only [wBin] <;> first | exact hnil _ _ h | cases h
  · cases h

theorem shapeB_true : ∀ (zs cs : List AV) (K : List AV → Prop), shapeB zs cs = true → K cs → shape zs cs K
  | [], [], K, _, h => h
  | [], _ :: _, K, h, _ => by cases h
  | z :: zs, [], K, h, _ => by cases z <;> cases h
  | z :: zs, a :: cs, K, h, hk => by
    cases z <;> cases a <;> try (simp only [shapeB, Bool.false_eq_true] at h; done)
    case int.int k n l m =>
      simp only [shapeB] at h
      obtain ⟨h1, h2⟩ := andB_true h
      have := kn_eq h1; subst this
      exact ⟨m, rfl, shapeB_true zs cs _ h2 hk⟩
    case bool.bool b c => exact ⟨c, rfl, shapeB_true zs cs _ h hk⟩
    case str.str x y => exact ⟨y, rfl, shapeB_true zs cs _ h hk⟩
    case sl.sl sz fr es sz' fr' es' =>
      cases fr' with
      | true => cases h
      | false =>
        simp only [shapeB] at h
        obtain ⟨h1, h2⟩ := andB_true h
        have := eqb_eq h1; subst this
        exact ⟨es', rfl, shapeB_true zs cs _ h2 hk⟩
theorem rawB_true {te : TE} {op : Op} {v : AV} {K : AV → Prop} {raw : Bool} (h : rawB te op v raw = true) (hk : K v) : rawK te op v K raw := by
  cases raw with
  | false => exact hk
  | true =>
    simp only [rawB] at h
    show shapeV (te (loadTy op)) v K
    cases hi : te (loadTy op) with
    | none => rw [hi] at h; cases h
    | some i =>
      rw [hi] at h
      simp only [shapeT] at h
      cases hb : i.kind.isAgg with
      | true =>
        rw [hb] at h
        cases v <;> simp only [shapeA, Bool.false_eq_true] at h
        simp only [shapeV, hb, shapeW, shapeG]
        exact shapeB_true _ _ _ h hk
      | false =>
        rw [hb] at h
        cases v <;> simp only [shapeA, Bool.false_eq_true] at h <;> simp only [shapeV, hb, shapeW] <;> exact shapeB_true _ _ (fun r => K (r.getD 0 .junk)) h hk

theorem xOp_form {te : TE} {X : XE} {s s' : St} {o : Oper} (h : xOp te X o s = some s') {K : Kont} (hk : K s') : wOp te X.env o s.T s.H K := by
  unfold xOp at h
  unfold wOp
  cases he : evOp te s.H.length s.T s.H o.op with
  | some out =>
    rw [he] at h
    obtain ⟨c, v, wr, r, x, raw⟩ := out
    simp only [xOpK, putR] at h
    obtain ⟨h1, h2⟩ := whenB_some h
    obtain ⟨h3, h4⟩ := andB_true h1
    simp only [Option.some.injEq] at h2
    have hA : condK c (rawK te o.op v (fun v => K ⟨putT s.T v o.dst, putH s.H wr⟩) raw) := condK_mk (okC_true h3) (rawB_true (K := fun v => K ⟨putT s.T v o.dst, putH s.H wr⟩) h4 (by rw [h2]; exact hk))
    simp only [opK]
    cases extOf te s.T s.H o.op with
    | none => exact hA
    | some q => exact .inl hA
  | none =>
    rw [he] at h
    exact xSpecial_sound h hk

theorem xGuard_form {te : TE} {X : XE} {all : List Oper} {s s' : St} {o : Oper} (h : xGuard te X all o s o.guard = some s') {K : Kont} (hk : K s') : wGuard te X.env all o s.T s.H K o.guard := by
  cases hg : o.guard with
  | none => rw [hg] at h; exact xOp_form h hk
  | some g =>
    obtain ⟨j, want⟩ := g
    rw [hg] at h
    simp only [xGuard] at h
    simp only [wGuard]
    cases hd : dstAt all j with
    | none => rw [hd] at h; cases h
    | some d =>
      rw [hd] at h
      simp only [xGuardD] at h
      simp only [guardD]
      cases hT : s.T.getD d .junk with
      | bool b =>
        rw [hT] at h
        simp only [xGuardV, sameB_eq] at h
        have hself := set_self_of_getD hT (by simp)
        cases b <;> cases want <;> simp only [guardV, ifB] <;> rw [hself]
        · exact xOp_form h hk
        · have h2 : (⟨putT s.T (.tup []) o.dst, s.H⟩ : St) = s' := by simpa [xIf] using h
          rw [h2]; exact hk
        · have h2 : (⟨putT s.T (.tup []) o.dst, s.H⟩ : St) = s' := by simpa [xIf] using h
          rw [h2]; exact hk
        · exact xOp_form h hk
      | tup vs =>
        rw [hT] at h
        cases vs with
        | cons v vs => cases h
        | nil =>
          simp only [xGuardV, Option.some.injEq] at h
          simp only [guardV]
          rw [h]
          exact hk
      | _ => rw [hT] at h; cases h

theorem xSeq_form {te : TE} {X : XE} {all : List Oper} {s' : St} {K : Kont} (hk : K s') : ∀ (rest : List Oper) (s : St), xSeq te X all rest s = some s' → wSeq te X.env all rest s K
  | [], s, h => by
    simp only [xSeq, Option.some.injEq] at h
    subst h
    exact hk
  | o :: rest, s, h => by
    simp only [xSeq] at h
    cases hx : xGuard te X all o s o.guard with
    | none => rw [hx] at h; cases h
    | some s1 =>
      rw [hx] at h
      exact xGuard_form hx (xSeq_form hk rest s1 h)

theorem ifB_mk {b : Bool} {A : Prop} (h : b = true) (hA : A) : ifB b A False := by subst h; exact hA

theorem drXO_form {te : TE} {X : XE} {p : Nat} {o : Oper} {s s' : St} {f : Foot} (h : drXO te X p o s = some (s', f)) {K : KontF} (hk : K s' f) : wDrOp te X.env p o s.T s.H K := by
  unfold drXO at h
  unfold wDrOp
  cases he : evOp te p s.T s.H o.op with
  | some out =>
    rw [he] at h
    obtain ⟨c, v, wr, r, x, raw⟩ := out
    simp only [drXK, drPut] at h
    obtain ⟨h1, h2⟩ := whenB_some h
    obtain ⟨h3, h4⟩ := andB_true h1
    obtain ⟨h5, h6⟩ := andB_true h4
    simp only [Option.some.injEq, Prod.mk.injEq] at h2
    obtain ⟨rfl, rfl⟩ := h2
    simp only [drK]
    exact ifB_mk h3 (condK_mk (okC_true h5) (rawB_true (K := fun v => K ⟨putT s.T v o.dst, putH s.H wr⟩ ⟨p :: fsts wr, opReads s.T o.op⟩) h6 hk))
  | none =>
    rw [he] at h
    simp only [drXK] at h
    simp only [drK]
    unfold drXS at h
    unfold drSpecial
    split at h
    · rename_i f' args tys ho
      simp only [ho]
      cases hc : xCallee X (ev s.T f') with
      | none => rw [hc] at h; cases h
      | some x =>
        rw [hc] at h
        rw [env_callee hc]
        cases x with
        | gen g => cases h
        | dat g =>
          simp only [drXC] at h
          simp only [XS.spec, drCall]
          cases hr : rslvL s.H (evs te s.T args.toList tys.toList) with
          | none => rw [hr] at h; cases hn : namesA (evs te s.T args.toList tys.toList) <;> rw [hn] at h <;> cases h
          | some q =>
            obtain ⟨c, xs⟩ := q
            rw [hr] at h
            cases hn : namesA (evs te s.T args.toList tys.toList) with
            | true => rw [hn] at h; cases h
            | false =>
              rw [hn] at h
              simp only [drXD] at h
              simp only [drDat]
              cases hg : g xs with
              | none => rw [hg] at h; cases h
              | some x =>
                obtain ⟨x, e⟩ := x
                rw [hg] at h
                simp only [drX] at h
                obtain ⟨h1, h2⟩ := whenB_some h
                simp only [Option.some.injEq, Prod.mk.injEq] at h2
                obtain ⟨rfl, rfl⟩ := h2
                exact ⟨x, e, ⟨x, e, rfl, rfl, rfl⟩, ifB_mk h1 hk⟩
    · cases h

theorem drXG_form {te : TE} {X : XE} {all : List Oper} {p : Nat} {o : Oper} {s s' : St} {f : Foot} (h : drXG te X all p o s o.guard = some (s', f)) {K : KontF} (hk : K s' f) : drGuard te X.env all p o s.T s.H K o.guard := by
  cases hg : o.guard with
  | none => rw [hg] at h; exact drXO_form h hk
  | some g =>
    obtain ⟨j, want⟩ := g
    rw [hg] at h
    simp only [drXG] at h
    simp only [drGuard]
    cases hd : dstAt all j with
    | none => rw [hd] at h; cases h
    | some d =>
      rw [hd] at h
      simp only [drXGD] at h
      simp only [drGuardD]
      cases hT : s.T.getD d .junk with
      | bool b =>
        rw [hT] at h
        simp only [drXGV, sameB_eq] at h
        have hself := set_self_of_getD hT (by simp)
        have hskip : (some ((⟨putT s.T .junk o.dst, s.H⟩ : St), (⟨[], []⟩ : Foot)) : SF) = some (s', f) → K ⟨putT s.T .junk o.dst, s.H⟩ ⟨[], []⟩ := by
          intro h
          simp only [Option.some.injEq, Prod.mk.injEq] at h
          obtain ⟨rfl, rfl⟩ := h
          exact hk
        cases b <;> cases want <;> simp only [drGuardV, ifB] <;> rw [hself]
        · exact drXO_form h hk
        · exact hskip (by simpa [xIf] using h)
        · exact hskip (by simpa [xIf] using h)
        · exact drXO_form h hk
      | _ => rw [hT] at h; cases h

theorem xDr_form {te : TE} {X : XE} {all : List Oper} {K : St → List Foot → Prop} {s' : St} {fs : List Foot} (hk : K s' fs) : ∀ (ops : List Oper) (p : Nat) (done : List Foot) (s : St), xDr te X all ops p done s = some (s', fs) → wDr te X.env all ops p done K s
  | [], p, done, s, h => by
    simp only [xDr, Option.some.injEq, Prod.mk.injEq] at h
    obtain ⟨rfl, rfl⟩ := h
    exact hk
  | o :: ops, p, done, s, h => by
    simp only [xDr] at h
    cases hx : drXG te X all p o s o.guard with
    | none => rw [hx] at h; cases h
    | some q =>
      obtain ⟨s1, g⟩ := q
      rw [hx] at h
      exact drXG_form hx (xDr_form hk ops (p + 1) (g :: done) s1 h)

theorem xDraw_form {te : TE} {X : XE} {all : List Oper} (hst : staticOK all (befores all) = true) {s s' : St} (h : xDraw te X all s = some s') {K : Kont} (hk : K s') : wDraw te X.env all s K := by
  unfold xDraw xDrawM at h
  unfold wDraw wDrawM
  cases hx : xDr te X all (takeL (freeM (befores all)) all) s.H.length [] ⟨s.T, s.H ++ nones (freeM (befores all))⟩ with
  | none => rw [hx] at h; cases h
  | some q =>
    obtain ⟨s1, fs⟩ := q
    rw [hx] at h
    simp only [xTail] at h
    obtain ⟨h1, h2⟩ := whenB_some h
    exact ifB_mk hst (xDr_form (K := kDraw te X.env all (freeM (befores all)) (befores all) K) (ifB_mk h1 (xSeq_form hk _ _ h2)) _ _ _ _ hx)

/-- All regions whose order is open pass the static look. -/
def codeStat : Code → Bool
  | .region _ ops dr => xIf dr (staticOK ops.toList (befores ops.toList)) true
  | .seq a b => andB (codeStat a) (codeStat b)
  | .cond _ a b => andB (codeStat a) (codeStat b)
  | .block _ c => codeStat c
  | .loop c => codeStat c
  | _ => true

theorem xCode_sound {w0 : World} {S0 : Nat → Prop} {ρ0 : Reg} {H0 : List Ent} {fl : Nat} {te : TE} (hte : TEok P te) {X : XE} (hX : Sound P X.env) (hmix : P.follows .mixedOrders = true) {N : Nat} : ∀ (c : Code) {s s' : St} {e : Ex} {w : World} {S : Nat → Prop} {ρ : Reg} {a : Act}, codeStat c = true → xCode te X N c s = some (e, s') → RS w S ρ s a → Goes w0 S0 ρ0 H0 w S ρ s.H fl →
    c.wp P (SatX w0 S0 ρ0 H0 fl (fun e2 s2 => e2 = e ∧ s2 = s')) a w := by
  intro c
  induction c with
  | skip => intro s s' e w S ρ a hst h hs hg; simp only [xCode, Option.some.injEq, Prod.mk.injEq] at h; obtain ⟨rfl, rfl⟩ := h; exact wp_skip ⟨s, S, ρ, hs, hg, rfl, rfl⟩
  | ret => intro s s' e w S ρ a hst h hs hg; simp only [xCode, Option.some.injEq, Prod.mk.injEq] at h; obtain ⟨rfl, rfl⟩ := h; exact wp_ret ⟨s, S, ρ, hs, hg, rfl, rfl⟩
  | exit i => intro s s' e w S ρ a hst h hs hg; simp only [xCode, Option.some.injEq, Prod.mk.injEq] at h; obtain ⟨rfl, rfl⟩ := h; exact wp_exit ⟨s, S, ρ, hs, hg, rfl, rfl⟩
  | region id ops dr =>
    intro s s' e w S ρ a hst h hs hg
    simp only [xCode] at h
    cases hr : xReg te X ops.toList s dr with
    | none => rw [hr] at h; cases h
    | some s1 =>
      rw [hr] at h
      simp only [norm, Option.some.injEq, Prod.mk.injEq] at h
      obtain ⟨rfl, rfl⟩ := h
      have hw : wCode te X.env fl (.region id ops dr) s (fun e2 s2 => e2 = .normal ∧ s2 = s1) := by
        cases dr with
        | false => exact xSeq_form (K := kNormal (fun e2 s2 => e2 = .normal ∧ s2 = s1)) (show (Ex.normal = Ex.normal) ∧ s1 = s1 from ⟨rfl, rfl⟩) _ _ hr
        | true => exact xDraw_form hst hr (K := kNormal (fun e2 s2 => e2 = .normal ∧ s2 = s1)) (show (Ex.normal = Ex.normal) ∧ s1 = s1 from ⟨rfl, rfl⟩)
      exact code_sound hte hX hmix _ hw hs hg
  | seq x y ihx ihy =>
    intro s s' e w S ρ a hst h hs hg
    obtain ⟨st1, st2⟩ := andB_true hst
    simp only [xCode] at h
    cases hx : xCode te X N x s with
    | none => rw [hx] at h; cases h
    | some q =>
      obtain ⟨e1, s1⟩ := q
      rw [hx] at h
      refine wp_seq (wp_mono (ihx st1 hx hs hg) ?_)
      intro ex a' w' hq
      cases ex with
      | normal =>
        obtain ⟨s2, S2, ρ2, h1, h2, he, rfl⟩ := hq
        subst he
        simp only [thenX] at h
        exact ihy st2 h h1 h2
      | exit i =>
        obtain ⟨s2, S2, ρ2, h1, h2, he, rfl⟩ := hq
        subst he
        simp only [thenX, Option.some.injEq, Prod.mk.injEq] at h
        obtain ⟨rfl, rfl⟩ := h
        exact ⟨_, S2, ρ2, h1, h2, rfl, rfl⟩
      | ret =>
        obtain ⟨s2, S2, ρ2, h1, h2, he, rfl⟩ := hq
        subst he
        simp only [thenX, Option.some.injEq, Prod.mk.injEq] at h
        obtain ⟨rfl, rfl⟩ := h
        exact ⟨_, S2, ρ2, h1, h2, rfl, rfl⟩
      | _ => exact hq.elim
  | cond c x y ihx ihy =>
    intro s s' e w S ρ a hst h hs hg
    obtain ⟨st1, st2⟩ := andB_true hst
    simp only [xCode] at h
    have hc := hs.ev c
    generalize hev : ev s.T c = cv at h hc
    generalize hvc : a.eval c = v at hc
    cases cv <;> simp only [xCond, reduceCtorEq] at h
    rename_i b
    cases hc
    refine wp_cond hvc ?_
    cases b with
    | true => exact ihx st1 h hs hg
    | false => exact ihy st2 h hs hg
  | block id c ih =>
    intro s s' e w S ρ a hst h hs hg
    simp only [xCode] at h
    cases hx : xCode te X N c s with
    | none => rw [hx] at h; cases h
    | some q =>
      obtain ⟨e1, s1⟩ := q
      rw [hx] at h
      refine wp_block (wp_mono (ih hst hx hs hg) ?_)
      intro ex a' w' hq
      cases ex with
      | normal =>
        obtain ⟨s2, S2, ρ2, h1, h2, he, rfl⟩ := hq
        subst he
        simp only [outOf, Option.some.injEq, Prod.mk.injEq] at h
        obtain ⟨rfl, rfl⟩ := h
        exact ⟨_, S2, ρ2, h1, h2, rfl, rfl⟩
      | ret =>
        obtain ⟨s2, S2, ρ2, h1, h2, he, rfl⟩ := hq
        subst he
        simp only [outOf, Option.some.injEq, Prod.mk.injEq] at h
        obtain ⟨rfl, rfl⟩ := h
        exact ⟨_, S2, ρ2, h1, h2, rfl, rfl⟩
      | exit i =>
        obtain ⟨s2, S2, ρ2, h1, h2, he, rfl⟩ := hq
        subst he
        simp only [outOf] at h
        simp only [Exit.inBlock]
        cases hb : eqb i id with
        | true =>
          rw [hb] at h
          simp only [xIf, Option.some.injEq, Prod.mk.injEq] at h
          obtain ⟨rfl, rfl⟩ := h
          rw [if_pos (eqb_eq hb)]
          exact ⟨_, S2, ρ2, h1, h2, rfl, rfl⟩
        | false =>
          rw [hb] at h
          simp only [xIf, Option.some.injEq, Prod.mk.injEq] at h
          obtain ⟨rfl, rfl⟩ := h
          rw [if_neg (eqb_ne hb)]
          exact ⟨_, S2, ρ2, h1, h2, rfl, rfl⟩
      | _ => exact hq.elim
  | loop c ih =>
    intro s s' e w S ρ a hst h hs hg
    simp only [xCode] at h
    let Good : Nat → Act → World → Prop := fun n a w => ∃ s1 S ρ, RS w S ρ s1 a ∧ Goes w0 S0 ρ0 H0 w S ρ s1.H fl ∧ xLoop (xCode te X N c) n s1 = some (e, s')
    have hmin : ∀ a w, (∃ n, Good n a w) → ∃ n, Good n a w ∧ ∀ m, Good m a w → n ≤ m := by
      rintro a w ⟨n, hn⟩
      induction n using Nat.strongRecOn with
      | _ n ihn =>
        by_cases hex : ∃ m, m < n ∧ Good m a w
        · obtain ⟨m, hm, hg'⟩ := hex; exact ihn m hm hg'
        · exact ⟨n, hn, fun m hm => by
            rcases Nat.lt_or_ge m n with h | h
            · exact absurd ⟨m, h, hm⟩ hex
            · exact h⟩
    let μ : Act → World → Nat := fun a w => Classical.epsilon fun n => Good n a w ∧ ∀ m, Good m a w → n ≤ m
    have hμ : ∀ a w, (∃ n, Good n a w) → Good (μ a w) a w ∧ ∀ m, Good m a w → μ a w ≤ m := fun a w h => Classical.epsilon_spec (p := fun n => Good n a w ∧ ∀ m, Good m a w → n ≤ m) (hmin a w h)
    refine wp_loop (fun a w => ∃ n, Good n a w) μ ⟨N, s, S, ρ, hs, hg, h⟩ ?_
    intro a' w' hex
    obtain ⟨⟨s1, S1, ρ1, r1, r2, r3⟩, _⟩ := hμ a' w' hex
    generalize hn : μ a' w' = n at r3
    cases n with
    | zero => cases r3
    | succ n =>
      simp only [xLoop] at r3
      cases hx : xCode te X N c s1 with
      | none => rw [hx] at r3; cases r3
      | some q =>
        obtain ⟨e2, s2⟩ := q
        rw [hx] at r3
        refine wp_mono (ih hst hx r1 r2) ?_
        intro ex a'' w'' hq
        cases ex with
        | normal =>
          obtain ⟨s3, S3, ρ3, h1, h2, he, rfl⟩ := hq
          subst he
          simp only [thenX] at r3
          have hgood : Good n a'' w'' := ⟨_, S3, ρ3, h1, h2, r3⟩
          exact ⟨⟨n, hgood⟩, Nat.lt_of_le_of_lt ((hμ a'' w'' ⟨n, hgood⟩).2 n hgood) (Nat.lt_succ_self n)⟩
        | exit i =>
          obtain ⟨s3, S3, ρ3, h1, h2, he, rfl⟩ := hq
          subst he
          simp only [thenX, Option.some.injEq, Prod.mk.injEq] at r3
          obtain ⟨rfl, rfl⟩ := r3
          exact ⟨_, S3, ρ3, h1, h2, rfl, rfl⟩
        | ret =>
          obtain ⟨s3, S3, ρ3, h1, h2, he, rfl⟩ := hq
          subst he
          simp only [thenX, Option.some.injEq, Prod.mk.injEq] at r3
          obtain ⟨rfl, rfl⟩ := r3
          exact ⟨_, S3, ρ3, h1, h2, rfl, rfl⟩
        | _ => exact hq.elim
  | _ => intro s s' e w S ρ a hst h hs hg; cases h

end
end Go.Rf
