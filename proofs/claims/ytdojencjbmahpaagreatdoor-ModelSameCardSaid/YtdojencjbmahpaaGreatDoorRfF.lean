/-
  THE SYMBOLIC EXECUTOR, part 15: one operation, all of its ways.
-/
import Derived.Test.YtdojencjbmahpaaGreatDoorRfE
set_option linter.unusedVariables false
set_option linter.unusedSimpArgs false
namespace Go.Rf

section
variable {P : Program} {w : World} {S : Nat → Prop} {ρ : Reg}

theorem run_call (a : Act) (f : Operand) (args : Array Operand) (tys : Array TypeId) (ty : TypeId) (g : FuncId) (hf : a.eval f = .func (.func g) #[] #[]) :
    (do let d ← resolve a.eval { callee := .value f, args := args, argTypes := tys } ty; invoke d.target d.args : Sem Next) = callFunc g (args.map a.eval) := by
  simp [resolve, hf, Deferred.ofValue, invoke]

theorem wp_call {a : Act} {o : Oper} {f : Operand} {args : Array Operand} {tys : Array TypeId} (ho : o.op = .call { callee := .value f, args := args, argTypes := tys }) {g : FuncId} (hf : a.eval f = .func (.func g) #[] #[])
    {next : Act → World → Prop} {Q : Exit → Act → World → Prop} (h : CallRuns P g (args.map a.eval) w (fun v w' => next (a.put o.dst v) w')) : o.wp P a w next Q := by
  have he : execOp a.eval o = callFunc g (args.map a.eval) := by
    unfold execOp
    rw [ho]
    exact run_call a f args tys o.type g hf
  unfold Oper.wp
  rw [he]
  rcases h with ⟨h1, h2⟩ | ⟨v, w', h1, h2⟩
  · rw [h1, Oper.upon_enter]
    exact Calls.mono h2 (fun e w'' he => by cases e <;> first | exact he | exact he.elim)
  · rw [h1, Oper.upon_value]
    exact h2

theorem wp_runs {a : Act} {o : Oper} {next : Act → World → Prop} {Q : Exit → Act → World → Prop} {x : Value} {w' : World} (h : OpRuns P w (execOp a.eval o) x w') (hn : next (a.put o.dst x) w') : o.wp P a w next Q := by
  unfold Oper.wp
  rcases h with h | ⟨h, rfl⟩
  · rw [h, Oper.upon_value]; exact hn
  · rw [h, Oper.upon_skip]; exact hn

theorem condK_split {c : Option DP} {K : Prop} (h : condK c K) : condK c True ∧ K := by
  cases c with
  | none => exact ⟨trivial, h⟩
  | some c => exact ⟨⟨h.1, trivial⟩, h.2⟩

theorem shape_sound : ∀ (zs cs : List AV) (K : List AV → Prop), shape zs cs K → K cs
  | [], [], K, h => h
  | [], _ :: _, K, h => by cases h
  | z :: zs, [], K, h => by cases z <;> cases h
  | z :: zs, a :: cs, K, h => by
    cases z with
    | int k n => obtain ⟨n, rfl, h⟩ := h; exact shape_sound zs cs _ h
    | bool b => obtain ⟨b, rfl, h⟩ := h; exact shape_sound zs cs _ h
    | str s => obtain ⟨s, rfl, h⟩ := h; exact shape_sound zs cs _ h
    | sl sz fr es => obtain ⟨es, rfl, h⟩ := h; exact shape_sound zs cs _ h
    | _ => cases h
theorem shapeV_sound {ti : Option TI} {v : AV} {K : AV → Prop} (h : shapeV ti v K) : K v := by
  cases ti with
  | none => cases h
  | some i =>
    simp only [shapeV] at h
    cases hb : i.kind.isAgg with
    | true =>
      rw [hb] at h
      simp only [shapeW] at h
      unfold shapeG at h
      split at h
      · exact shape_sound _ _ (fun r => K (.agg r)) h
      · cases h
    | false =>
      rw [hb] at h
      exact shape_sound _ [v] (fun r => K (r.getD 0 .junk)) h
theorem rawK_sound {te : TE} {op : Op} {v : AV} {K : AV → Prop} {raw : Bool} (h : rawK te op v K raw) : K v := by
  unfold rawK at h
  cases raw with
  | false => exact h
  | true => exact shapeV_sound h

/-- From a step to the next state. -/
theorem RS.step {s : St} {a : Act} (hs : RS w S ρ s a) {w' : World} {S' : Nat → Prop} {ρ' : Reg} {H' : List Ent} {v : AV} {x : Value} (hv : Rd w' S' ρ' H'.length v x) (hm : RH w' S' ρ' H') (hg : Goes w S ρ s.H w' S' ρ' H' s.H.length) (dst : Option Nat) :
    RS w' S' ρ' ⟨putT s.T v dst, H'⟩ (a.put dst x) := (hs.goes hg hm).put hv dst

theorem Rd.scalar1 {n : Nat} {a : AV} {v : Value} {w' : World} {S' : Nat → Prop} {ρ' : Reg} {m : Nat} (h : Rd w S ρ n a v) (hs : Rf.scalar1 a) : Rd w' S' ρ' m a v := by
  cases h <;> first | exact hs.elim | exact .int _ _ _ | exact .bool _ _ | exact .str _ _
theorem Rd.scalarL {n : Nat} {w' : World} {S' : Nat → Prop} {ρ' : Reg} {m : Nat} : ∀ {cs : List AV}, Rf.scalarL cs → ∀ (i : Nat) (a : AV) (v : Value), cs[i]? = some a → Rd w S ρ n a v → Rd w' S' ρ' m a v
  | [], _, i, a, v, h, _ => by simp at h
  | c :: cs, hs, i, a, v, h, hr => by
    cases i with
    | zero => simp at h; subst h; exact hr.scalar1 hs.1
    | succ i => exact Rd.scalarL hs.2 i a v (by simpa using h) hr
theorem Rd.scalar {n : Nat} {a : AV} {v : Value} {w' : World} {S' : Nat → Prop} {ρ' : Reg} {m : Nat} (h : Rd w S ρ n a v) (hs : Rf.scalar a) : Rd w' S' ρ' m a v := by
  cases h with
  | tup _ cs vs hl hr => exact .tup _ cs vs hl fun i a v ha hv => Rd.scalarL hs i a v ha (hr i a v ha hv)
  | int => exact .int _ _ _
  | bool => exact .bool _ _
  | str => exact .str _ _
  | _ => exact hs.elim

/-! A result that names place 0, under place p. -/
theorem Rd.mv1 {ρ' : Reg} {p m n : Nat} {a : AV} {v : Value} (h : Rd w S ρ n a v) (hn : n ≤ 1) (hp : n = 1 → p < m) (hl : n = 1 → ρ' p = ρ 0) : Rd w S ρ' m (Rf.mv1 p a) v := by
  cases h with
  | own _ q ver len A cap hq hv hc hA h =>
    have h0 : n = 1 := by omega
    have hq0 : q = 0 := by omega
    subst hq0
    exact .own _ _ _ _ _ _ (hp h0) (by rw [hl h0]; exact hv) hc hA (by rw [hl h0]; exact h)
  | sl _ sz fr es A len cap cell hl' hc hx hf hsz hcell hA h => exact .sl _ sz fr es A len cap cell hl' hc hx hf hsz hcell hA fun i k e a he ha => (h i k e a he ha).mono (Later.refl _ _) (Nat.le_refl _) (fun q hq => absurd hq (by omega))
  | rptr _ sz es i k a e cell he hl' hcell h => exact .rptr _ sz es i k a e cell he hl' hcell fun j x hx => (h j x hx).mono (Later.refl _ _) (Nat.le_refl _) (fun q hq => absurd hq (by omega))
  | int => exact .int _ _ _
  | bool => exact .bool _ _
  | str => exact .str _ _
  | fn => exact .fn _ _
  | _ => exact .junk _ _
theorem mvL_get (p : Nat) : ∀ (cs : List AV) (i : Nat), (mvL p cs)[i]? = cs[i]?.map (Rf.mv1 p)
  | [], i => by simp [mvL]
  | c :: cs, 0 => by simp [mvL]
  | c :: cs, i + 1 => by simpa [mvL] using mvL_get p cs i
theorem mvL_length (p : Nat) : ∀ (cs : List AV), (mvL p cs).length = cs.length
  | [] => rfl
  | _ :: cs => congrArg (· + 1) (mvL_length p cs)
theorem Rd.mvAgg {ρ' : Reg} {p m n : Nat} {cs : List AV} {v : Value} (h : Rd w S ρ n (.agg cs) v) (hn : n ≤ 1) (hp : n = 1 → p < m) (hl : n = 1 → ρ' p = ρ 0) : Rd w S ρ' m (.agg (mvL p cs)) v := by
  cases h with
  | agg _ _ vs hl' h1 hr =>
    refine .agg _ _ vs (by rw [mvL_length]; exact hl') h1 fun i a v ha hv => ?_
    rw [mvL_get] at ha
    cases hc : cs[i]? with
    | none => rw [hc] at ha; cases ha
    | some b => rw [hc] at ha; cases ha; exact (hr i b v hc hv).mv1 hn hp hl
theorem Rd.mv {ρ' : Reg} {p m n : Nat} {a : AV} {v : Value} (h : Rd w S ρ n a v) (hn : n ≤ 1) (hp : n = 1 → p < m) (hl : n = 1 → ρ' p = ρ 0) : Rd w S ρ' m (Rf.mv p a) v := by
  cases a with
  | agg cs => exact h.mvAgg hn hp hl
  | _ => exact h.mv1 hn hp hl
theorem mvT_get (p : Nat) : ∀ (cs : List AV) (i : Nat), (mvT p cs)[i]? = cs[i]?.map (Rf.mv p)
  | [], i => by simp [mvT]
  | c :: cs, 0 => by simp [mvT]
  | c :: cs, i + 1 => by simpa [mvT] using mvT_get p cs i
theorem mvT_length (p : Nat) : ∀ (cs : List AV), (mvT p cs).length = cs.length
  | [] => rfl
  | _ :: cs => congrArg (· + 1) (mvT_length p cs)
theorem Rd.mvR {ρ' : Reg} {p m n : Nat} {a : AV} {v : Value} (h : Rd w S ρ n a v) (hn : n ≤ 1) (hp : n = 1 → p < m) (hl : n = 1 → ρ' p = ρ 0) : Rd w S ρ' m (Rf.mvR p a) v := by
  cases a with
  | agg cs => exact h.mvAgg hn hp hl
  | tup cs =>
    cases h with
    | tup _ _ vs hl' hr =>
      refine .tup _ _ vs (by rw [mvT_length]; exact hl') fun i a v ha hv => ?_
      rw [mvT_get] at ha
      cases hc : cs[i]? with
      | none => rw [hc] at ha; cases ha
      | some b => rw [hc] at ha; cases ha; exact (hr i b v hc hv).mv hn hp hl
  | _ => exact h.mv1 hn hp hl

theorem entL_push (H : List Ent) (e : Ent) : putH H (pushE H.length e) = H ++ entL e := by
  have : ∀ (H : List Ent) (e : Ent), setH H H.length e = H ++ [e] := by
    intro H e
    induction H with
    | nil => rfl
    | cons x H ih => simp [setH, ih]
  cases e <;> simp [pushE, putH, entL, this]

/-- Behind a call under a contract on data. -/
theorem after_call {H : List Ent} (hm : RH w S ρ H) {w' : World} {S' : Nat → Prop} {ρ' : Reg} {r : AV} {en : Ent} {v : Value} (hcl : clEnt en) (hm' : RH w' S' ρ' (entL en)) (hv : Rd w' S' ρ' (entL en).length r v) (hg : Goes w S ρ' [] w' S' ρ' (entL en) 0)
    {p : Nat} (hp : Fresh H p) :
    ∃ ρ'', RH w' S' ρ'' (putH H (pushE p en)) ∧ Goes w S ρ H w' S' ρ'' (putH H (pushE p en)) H.length ∧ Rd w' S' ρ'' (putH H (pushE p en)).length (Rf.mvR p r) v := by
  have hno : ∀ k, ¬ Own ρ' [] k := by rintro k ⟨p, e, he, _⟩; simp at he
  have hkeep : ∀ k, k < w.heap.size → w'.heap[k]? = w.heap[k]? := fun k hk => hg.keep k hk (hno k)
  have hdn : ∀ k, S' k → S k ∨ w.heap.size ≤ k := fun k hk => (hg.down k hk).elim .inl (fun h => h.elim (fun h => absurd h (hno k)) .inr)
  cases en with
  | var => cases hcl
  | none =>
    have key := hm.same (S' := S') hg.os hg.tape hg.output hg.size hkeep hg.up (fun k hk => (hdn k hk).elim .inl (fun h => .inr ⟨h, (hm'.stab k hk).1⟩))
    refine ⟨ρ, key.1, key.2, ?_⟩
    exact hv.mvR (by simp [entL]) (by simp [entL]) (by simp [entL])
  | arr cl ver sz cap es =>
    simp only [clEnt] at hcl
    subst hcl
    have hent := hm'.ent 0 _ rfl
    simp only [pushE, putH]
    have hlen : H.length ≤ (setH H p (.arr true ver sz cap es)).length := by rw [setH_length _ _ _ hp.1]; omega
    have hplt : p < (setH H p (.arr true ver sz cap es)).length := by rw [setH_length _ _ _ hp.1]; omega
    have hver : (ρ' 0).ver = ver := hent.1
    have hvpos : 0 < ver := hent.2.1
    have key := hm.change (p := p) (w' := w') (S' := S') (ρ' := upd ρ p (ρ' 0)) (e' := .arr true ver sz cap es) hp.1 (fun q hq => upd_other _ _ _ _ hq) (fun h => by rw [upd_same, hp.ver hm h, hver]; exact .inr hvpos) hg.os hg.tape hg.output hg.size (fun k hk _ => hkeep k hk)
      (fun hl => by
        right
        rw [upd_same]
        have ho : Own ρ' (entL (.arr true ver sz cap es)) (ρ' 0).blk := ⟨0, _, rfl, by simpa only [live, upd_same] using hl, rfl⟩
        exact (hg.own _ ho).elim (fun h => absurd h (hno _)) id)
      hg.up (fun k hk => (hdn k hk).elim .inl (fun h => .inr ⟨h, (hm'.stab k hk).1, fun hl heq => (hm'.stab k hk).2 ⟨0, _, rfl, by simpa only [live, upd_same] using hl, by rw [heq, upd_same]⟩⟩))
      (by
        obtain ⟨h1, h2, h3, h4, h5, h6, h7, h8, h9⟩ := hent
        refine ⟨by rw [upd_same]; exact h1, h2, by rw [upd_same]; exact h3, h4, by rw [upd_same]; exact h5, by rw [upd_same]; exact h6, by rw [upd_same]; exact h7, h8, fun hc => ?_⟩
        rw [upd_same] at hc ⊢
        obtain ⟨cs, ty, k1, k2, k3, k4⟩ := h9 hc
        exact ⟨cs, ty, k1, k2, k3, fun i k e a v he ha hv => (k4 i k e a v he ha hv).mono (Later.refl _ _) (Nat.le_refl _) (fun q hq => absurd hq (by simp))⟩)
    refine ⟨_, key.1, key.2, ?_⟩
    exact hv.mvR (Nat.le_refl _) (fun _ => hplt) (fun _ => upd_same _ _ _)

theorem calleeOf_some {Γ : GE} {a : AV} {sp : Spec} (h : calleeOf Γ a = some sp) : ∃ g, a = .fn g ∧ Γ g = some sp := by
  cases a <;> simp only [calleeOf, reduceCtorEq] at h
  exact ⟨_, rfl, h⟩

theorem call_sound {te : TE} {Γ : GE} (hΓ : Sound P Γ) {s : St} {a : Act} (hs : RS w S ρ s a) (o : Oper) {f : Operand} {args : Array Operand} {tys : Array TypeId} (ho : o.op = .call { callee := .value f, args := args, argTypes := tys }) {K : Kont}
    (hw : wCall te s.T s.H o.dst (evs te s.T args.toList tys.toList) K (calleeOf Γ (ev s.T f))) {next : Act → World → Prop} {Q : Exit → Act → World → Prop}
    (hn : ∀ w' S' ρ' s' a', RS w' S' ρ' s' a' → Goes w S ρ s.H w' S' ρ' s'.H s.H.length → K s' → next a' w') : o.wp P a w next Q := by
  cases hc : calleeOf Γ (ev s.T f) with
  | none => rw [hc] at hw; cases hw
  | some sp =>
    rw [hc] at hw
    obtain ⟨g, hg, hsp⟩ := calleeOf_some hc
    have hef := hs.ev f
    rw [hg] at hef
    generalize hfv : a.eval f = fv at hef
    cases hef
    have hargs := args_rd (te := te) hs args tys.toList
    refine wp_call ho hfv ?_
    have hsound := hΓ g sp hsp
    have datCase : ∀ D : DSpec, DSound P g D → wDat D s.H.length (kSt s.T s.H o.dst K) (namesA (evs te s.T args.toList tys.toList)) (rslvL s.H (evs te s.T args.toList tys.toList)) → CallRuns P g (args.map a.eval) w (fun v w' => next (a.put o.dst v) w') := by
      intro D hsound hw
      cases hr : rslvL s.H (evs te s.T args.toList tys.toList) with
      | none => rw [hr] at hw; cases hnm : namesA (evs te s.T args.toList tys.toList) <;> rw [hnm] at hw <;> cases hw
      | some q =>
        obtain ⟨c, xs⟩ := q
        rw [hr] at hw
        cases hnm : namesA (evs te s.T args.toList tys.toList) with
        | false =>
          rw [hnm] at hw
          simp only [wDat] at hw
          obtain ⟨i1, i2⟩ := rslvL_plain (w := w) (S := S) (ρ := ρ) _ _ _ hnm hr
          have hxs : ArgsRd w S ρ 0 xs (args.map a.eval) := ⟨by rw [hargs.1, i1], fun i x v hx hv => i2 s.H.length i x v hx (fun b hb => hargs.2 i b v hb hv)⟩
          refine CallRuns.mono (hsound w S ρ xs _ _ (fun k hk => (hs.mem.stab k hk).1) hxs hw) ?_
          rintro v w' ⟨r, en, S', ρ', h1, h2, h3, h4, h5⟩
          obtain ⟨ρ'', g1, g2, g3⟩ := after_call hs.mem h2 h3 h4 h5 (Fresh.end s.H)
          exact hn _ _ _ _ _ (hs.step g3 g1 g2 o.dst) g2 h1
        | true =>
          rw [hnm] at hw
          simp only [wDat] at hw
          obtain ⟨hc1, hw⟩ := condK_split hw
          obtain ⟨i1, i2⟩ := rslvL_rd hs.mem _ _ _ hr hc1
          have hxs : ArgsRd w (lent S ρ s.H) ρ 0 xs (args.map a.eval) := ⟨by rw [hargs.1, i1], fun i x v hx hv => i2 0 i x v hx (fun b hb => hargs.2 i b v hb hv)⟩
          refine CallRuns.mono (hsound w (lent S ρ s.H) ρ xs _ _ (fun k hk => hk.elim (fun h => (hs.mem.stab k h).1) (fun h => hs.mem.own_lt h)) hxs hw) ?_
          rintro v w' ⟨r, en, S', ρ', ⟨⟨h1, h1e⟩, h1k⟩, h2, h3, h4, h5⟩
          have hno : ∀ k, ¬ Own ρ' [] k := by rintro k ⟨p, e, he, _⟩; simp at he
          have key := hs.mem.same (S' := S) h5.os h5.tape h5.output h5.size (fun k hk => h5.keep k hk (hno k)) (fun _ h => h) (fun _ h => .inl h)
          exact hn _ _ _ _ _ (hs.step (h4.scalar h1) key.1 key.2 o.dst) key.2 h1k
    cases sp with
    | gen G =>
      refine CallRuns.mono (hsound w S ρ s.H _ _ _ hs.mem hargs hw) ?_
      rintro v w' ⟨r, H', S', ρ', h1, h2, h3, h4⟩
      exact hn _ _ _ _ _ (hs.step h3 h2 h4 o.dst) h4 h1
    | dat D => exact datCase D hsound hw
    | fn C g' => exact datCase _ hsound hw

end
end Go.Rf
