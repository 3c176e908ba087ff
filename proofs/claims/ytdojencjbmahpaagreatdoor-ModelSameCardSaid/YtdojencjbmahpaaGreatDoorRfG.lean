/-
  THE SYMBOLIC EXECUTOR, part 16: operations in the order of the text.
-/
import Derived.Test.YtdojencjbmahpaaGreatDoorRfF
set_option linter.unusedVariables false
set_option linter.unusedSimpArgs false
namespace Go.Rf

section
variable {P : Program} {w : World} {S : Nat → Prop} {ρ : Reg}

theorem isSlice_some {te : TE} (hte : TEok P te) {t : TypeId} (h : isSlice (te t) = true) : ∃ e, P.underlying t = some (.slice e) := by
  cases hi : te t with
  | none => rw [hi] at h; cases h
  | some i =>
    rw [hi] at h
    obtain ⟨inf, d, z, hf⟩ := hte.get hi
    simp only [isSlice] at h
    cases hk : i.kind <;> rw [hk] at h <;> try (cases h; done)
    rename_i e
    have := hf.kslice hk; subst this
    exact ⟨e, hf.und⟩

theorem ifB_false {b : Bool} {A : Prop} (h : ifB b A False) : b = true ∧ A := by cases b with | true => exact ⟨rfl, h⟩ | false => exact h.elim

/-- How the walk goes on behind an operation, at the machine. -/
abbrev Next' (P : Program) (w : World) (S : Nat → Prop) (ρ : Reg) (H : List Ent) (K : Kont) (next : Act → World → Prop) : Prop :=
  ∀ w' S' ρ' s' a', RS w' S' ρ' s' a' → Goes w S ρ H w' S' ρ' s'.H H.length → K s' → next a' w'

theorem run_builtin_call {a : Act} {o : Oper} {b : Builtin} {args : Array Operand} {tys : Array TypeId} (ho : o.op = .call { callee := .builtin b, args := args, argTypes := tys }) :
    execOp a.eval o = builtin b tys o.type (args.map fun | .const _ => true | _ => false) (args.map a.eval) := by
  unfold execOp
  rw [ho]
  simp [resolve, invoke]
  rfl

theorem cap_sound {te : TE} (hte : TEok P te) {s : St} {a : Act} (hs : RS w S ρ s a) (o : Oper) {x : Operand} {t : TypeId} (ho : o.op = .call { callee := .builtin .cap, args := #[x], argTypes := #[t] }) {K : Kont} {next : Act → World → Prop} {Q : Exit → Act → World → Prop}
    (hw : wCapT s.H (kSt s.T s.H o.dst K) (ev s.T x) (te t)) (hn : Next' P w S ρ s.H K next) : o.wp P a w next Q := by
  obtain ⟨h1, h2⟩ := ifB_false hw
  obtain ⟨e, ht⟩ := isSlice_some hte h1
  have hel : P.elem t = e := by simp [Program.elem, ht]
  have hx := hs.ev x
  generalize hex : ev s.T x = ax at h2 hx
  generalize hvx : a.eval x = vx at hx
  cases ax <;> simp only [wCap] at h2
  rename_i q ver len
  cases hq : s.H.getD q .none with
  | none => rw [hq] at h2; cases h2
  | var => rw [hq] at h2; cases h2
  | arr cl v sz cap es =>
    rw [hq] at h2
    have hget := getD_some hq (by simp)
    have hent := hs.mem.ent q _ hget
    obtain ⟨e1, e2, e3, e4, e5, e6, e7, e8, e9⟩ := id hent
    cases hx with
    | own _ _ _ _ A cap0 hp hver hcp hA hr =>
      have hrun : ∀ C, cap0 = C → (execOp a.eval o).run P w = .ok (.value (goInt C)) w := by
        intro C hC
        subst hC
        rw [run_builtin_call ho]
        simp only [builtin, Sem.run_bind, List.map_toArray, List.map_cons, List.map_nil, hvx]
        rw [run_cap_slice w t o.type A len cap0 (by rw [hel]; exact ht)]
        rfl
      cases cap with
      | some C =>
        simp only [capE] at h2
        obtain ⟨⟨rfl, rfl⟩, hk⟩ := h2
        obtain ⟨k1, _⟩ := hr e1.symm
        have hC : cap0 = C := by rw [k1]; exact (e7 C rfl).symm
        exact wp_runs (.inl (hrun C hC)) (hn w S ρ _ _ (hs.put (.int _ _ _) o.dst) (Goes.refl w S ρ s.H (Nat.le_refl _)) hk)
      | none =>
        simp only [capE] at h2
        obtain ⟨⟨rfl, rfl⟩, hk⟩ := h2
        obtain ⟨k1, _⟩ := hr e1.symm
        have hk := hk cap0 (by omega) (by rw [k1]; simp only [maxLen] at e6; omega)
        have key := hs.mem.fill hget (ρ q) w (e' := .arr cl v sz (some cap0) es) (.inl rfl) rfl rfl rfl rfl (Nat.le_refl _) (fun _ _ _ => rfl) (fun h => by rw [upd_self] at h; exact h) (fun hS hN => by
          rw [upd_self]
          exact ⟨e1, e2, e3, e4, e5, e6, fun c hc => by cases hc; exact k1, e8, e9⟩)
        rw [upd_self] at key
        exact wp_runs (.inl (hrun cap0 rfl)) (hn w S ρ _ _ (hs.step (.int _ _ _) key.1 key.2 o.dst) key.2 hk)

theorem nilConst {y : Operand} (h : isNilConst y = true) : y = .const (.slice none 0 0) := by
  unfold isNilConst at h
  split at h
  · rfl
  all_goals cases h

theorem run_equalIn_nil (d : Nat) {t e : TypeId} (ht : P.underlying t = some (.slice e)) (A : Option Addr) (n c : Nat) : (Op.equalIn (d + 1) t (.slice A n c) (.slice none 0 0)).run P w = .ok A.isNone w := by
  cases A <;> simp [Op.equalIn, run_underlying ht]
theorem run_equal_nil {t e : TypeId} (ht : P.underlying t = some (.slice e)) (A : Option Addr) (n c : Nat) : (Op.equal t (.slice A n c) (.slice none 0 0)).run P w = .ok A.isNone w := run_equalIn_nil 9999 ht A n c
theorem run_slice_nil (op : BinOp) (neq : Bool) (hop : op = if neq then .neq else .eql) {t e : TypeId} (ht : P.underlying t = some (.slice e)) (x y : Operand) (A : Option Addr) (n c : Nat) :
    (do eqGuard op t x y (.slice A n c) (.slice none 0 0); binOp op t (.slice A n c) (.slice none 0 0) : Sem Value).run P w = .ok (.bool (notIf neq A.isNone)) w := by
  have hg : eqGuard op t x y (.slice A n c) (.slice none 0 0) = Pure.pure () := eqGuard_at_slice op t x y _ A n c
  rw [hg]
  cases neq <;> simp only [if_true, if_false, Bool.false_eq_true] at hop <;> subst hop <;> simp only [binOp, Sem.run_bind, Sem.run_pure, Result.andThen_ok, run_equal_nil ht, notIf]

theorem nil_sound {te : TE} (hte : TEok P te) {s : St} {a : Act} (hs : RS w S ρ s a) (o : Oper) {op : BinOp} {t : TypeId} {x y : Operand} {ty : TypeId} (ho : o.op = .binOp op t x y ty) {K : Kont} {next : Act → World → Prop} {Q : Exit → Act → World → Prop}
    (hw : wBin (ev s.T x) (kSt s.T s.H o.dst K) (Rf.andB (isSlice (te t)) (isNilConst y)) op) (hn : Next' P w S ρ s.H K next) : o.wp P a w next Q := by
  have main : ∀ neq, op = (if neq then .neq else .eql) → wNilK neq (ev s.T x) (kSt s.T s.H o.dst K) (Rf.andB (isSlice (te t)) (isNilConst y)) → o.wp P a w next Q := by
    intro neq hop hw
    cases hb : Rf.andB (isSlice (te t)) (isNilConst y) with
    | false => rw [hb] at hw; cases hw
    | true =>
      rw [hb] at hw
      obtain ⟨h1, h2⟩ := andB_true hb
      obtain ⟨e, ht⟩ := isSlice_some hte h1
      have hy := nilConst h2
      simp only [wNilK] at hw
      have hx := hs.ev x
      generalize hex : ev s.T x = ax at hw hx
      generalize hvx : a.eval x = vx at hx
      have hfin : ∀ A n c, vx = .slice A n c → kNil (kSt s.T s.H o.dst K) (.bool (notIf neq A.isNone)) → o.wp P a w next Q := by
        intro A n c hv hk
        refine wp_runs (x := .bool (notIf neq A.isNone)) (w' := w) (.inl ?_) (hn w S ρ _ _ (hs.put (.bool _ _) o.dst) (Goes.refl w S ρ s.H (Nat.le_refl _)) hk)
        unfold execOp
        rw [ho]
        subst hy
        have := run_slice_nil (P := P) (w := w) op neq hop ht x (.const (.slice none 0 0)) A n c
        show (do Pure.pure (Next.value (← (do eqGuard op t x (.const (.slice none 0 0)) (a.eval x) (.slice none 0 0); binOp op t (a.eval x) (.slice none 0 0)))) : Sem Next).run P w = _
        rw [hvx, hv, Sem.run_bind, this]
        rfl
      cases ax <;> simp only [wNil] at hw
      · cases hx with
        | sl _ _ _ _ A len cap cell hl hc hx' hfr hsz hcell hA h =>
          refine hfin A len cap rfl (hw _ ?_)
          intro hnone
          rcases Nat.eq_zero_or_pos len with h0 | h0
          · exact List.eq_nil_of_length_eq_zero (by omega)
          · have := hA h0
            cases A <;> simp_all
      · rename_i q ver len
        cases hx with
        | own _ _ _ _ A cap0 hp hver hcp hA hr =>
          refine hfin A _ cap0 rfl (hw _ ?_)
          intro hnone
          rcases Nat.eq_zero_or_pos len with h0 | h0
          · exact h0
          · have := hA h0
            cases A <;> simp_all
  cases op <;> simp only [wBin] at hw <;> first | exact main false rfl hw | exact main true rfl hw | exact hw.elim

theorem outK_some {K : AV → List (Nat × Ent) → Prop} {o : Option Out} (h : outK K o) : ∃ out, o = some out ∧ condK out.c True ∧ K out.v out.w := by
  cases o with
  | none => cases h
  | some out => obtain ⟨h1, h2⟩ := condK_split h; exact ⟨out, rfl, h1, h2⟩

theorem app_sound {te : TE} (hte : TEok P te) {s : St} {a : Act} (hs : RS w S ρ s a) (o : Oper) {x y : Operand} {t u : TypeId} (ho : o.op = .call { callee := .builtin .append, args := #[x, y], argTypes := #[t, u] }) {K : Kont} {next : Act → World → Prop} {Q : Exit → Act → World → Prop}
    (hw : wApp te s.T s.H (kSt s.T s.H o.dst K) (ev s.T x) (ev s.T y) (te u) (elemI te (te t))) (hn : Next' P w S ρ s.H K next) : o.wp P a w next Q := by
  cases hi : elemI te (te t) with
  | none => rw [hi] at hw; cases hw
  | some i =>
    rw [hi] at hw
    obtain ⟨j, e, h1, h2, h3⟩ := elemI_some hi
    obtain ⟨inf, d, z, hf⟩ := hte.get h1
    obtain ⟨inf', d', z', hf'⟩ := hte.get h3
    have := hf.kslice h2; subst this
    simp only [wApp, wApp2] at hw
    have hx := hs.ev x
    have hy := hs.ev y
    have hfin : ∀ out : Out, condK out.c True → kSt s.T s.H o.dst K out.v out.w → Step P w S ρ s.H (Builtin.append_ #[t, u] o.type #[a.eval x, a.eval y]) out.v (putH s.H out.w) → o.wp P a w next Q := by
      intro out hc hk hstep
      obtain ⟨v, w', S', ρ', s1, s2, s3, s4⟩ := hstep
      refine wp_runs (x := v) (w' := w') (.inl ?_) (hn w' S' ρ' _ _ (hs.step s2 s3 s4 o.dst) s4 hk)
      rw [run_builtin_call ho]
      simp only [builtin, Sem.run_bind, List.map_toArray, List.map_cons, List.map_nil, s1]
      rfl
    rcases hw with hw | hw
    · obtain ⟨out, he, hc, hk⟩ := outK_some hw
      refine hfin out hc hk ?_
      unfold evAppendIn at he
      split at he
      · rename_i q ver off len k hex
        rw [hex] at hx
        exact appI_step hte hs.mem hf.und hf' hx hy he hc
      · cases he
    · obtain ⟨out, he, hc, hk⟩ := outK_some hw
      refine hfin out hc hk ?_
      unfold evAppendOut at he
      split at he
      · rename_i q ver off len k hex
        rw [hex] at hx
        exact appX_step hte hs.mem (Fresh.end s.H) hf.und hf' hx hy he hc
      · cases he

theorem ext_sound {te : TE} (hte : TEok P te) {s : St} {a : Act} (hs : RS w S ρ s a) (o : Oper) {q ver len : Nat} {h : Int} (hx : extOf te s.T s.H o.op = some (q, ver, len, h)) {K : Kont} {next : Act → World → Prop} {Q : Exit → Act → World → Prop}
    (hw : extE q ver len h (kSt s.T s.H o.dst K) (s.H.getD q .none)) (hn : Next' P w S ρ s.H K next) : o.wp P a w next Q := by
  unfold extOf at hx
  split at hx
  · rename_i t x lo hi mx ho
    cases hi' : elemI te (te t) with
    | none => rw [hi'] at hx; cases hx
    | some i =>
      rw [hi'] at hx
      obtain ⟨j, e, h1, h2, h3⟩ := elemI_some hi'
      obtain ⟨inf, d, z, hf⟩ := hte.get h1
      obtain ⟨inf', d', z', hf'⟩ := hte.get h3
      have := hf.kslice h2; subst this
      have hel : P.elem t = e := by simp [Program.elem, hf.und]
      have hut : P.underlying t = some (.slice (P.elem t)) := by rw [hel]; exact hf.und
      have hsize : ∀ w, (sizeOf (P.elem t)).run P w = .ok i.size w := fun w => by rw [hel]; exact hf'.run_size w
      simp only [extT] at hx
      unfold extV at hx
      split at hx
      · rename_i q' ver' len' h' hex hol hoh hom
        obtain ⟨g1, g2⟩ := ifo_some hx
        cases g2
        have hszq := esz1_get hs.mem g1
        have hu := hs.ev x
        rw [hex] at hu
        generalize hvx : a.eval x = vx at hu
        have rl := optInt_rd hs lo hol
        have rh := optInt_rd hs hi hoh
        have rm := optInt_rd hs mx hom
        cases hq : s.H.getD q .none with
        | none => rw [hq] at hw; cases hw
        | var => rw [hq] at hw; cases hw
        | arr cl v sz cap es =>
          rw [hq] at hw
          cases cap with
          | none => cases hw
          | some C =>
            obtain ⟨⟨rfl, rfl, hle, hC⟩, hk⟩ := hw
            have hget := getD_some hq (by simp)
            have hent := hs.mem.ent q _ hget
            obtain ⟨e1, e2, e3, e4, e5, e6, e7, e8, e9⟩ := id hent
            have hqlt : q < s.H.length := (List.getElem?_eq_some_iff.1 hget).1
            have hCeq := e7 C rfl
            cases hmx : mx with
            | some y => rw [hmx] at rm; exact rm.elim
            | none =>
              cases hlo : lo with
              | some y => rw [hlo] at rl; exact rl.elim
              | none =>
                cases hu with
                | own _ _ _ _ A cap0 hp hver hcp hA hr =>
                  obtain ⟨k1, k2⟩ := hr e1.symm
                  have hrun := run_slice_lh' (P := P) (w := w) t A es.length cap0 hut hsize none (some h) none (hi.map a.eval) trivial rh (by simp [slLo]) (by simp only [slLo, slHi]; omega) (by simp only [slHi]; omega)
                  have hlen : (es ++ List.replicate (h.toNat - es.length) (List.replicate sz AV.junk)).length = h.toNat := by simp; omega
                  have key := hs.mem.fill hget (ρ q) w (e' := .arr cl v sz (some C) (es ++ List.replicate (h.toNat - es.length) (List.replicate sz .junk))) (.inl rfl) rfl rfl rfl rfl (Nat.le_refl _) (fun _ _ _ => rfl) (fun h => by rw [upd_self] at h; exact h) (fun hS hN => by
                    rw [upd_self]
                    refine ⟨e1, e2, e3, e4, by rw [hlen]; omega, e6, e7, ?_, fun hc => ?_⟩
                    · intro e he
                      rcases List.mem_append.1 he with he | he
                      · exact e8 e he
                      · obtain ⟨_, rfl⟩ := List.mem_replicate.1 he; simp
                    · obtain ⟨cs, ty, c1, c2, c3, c4⟩ := e9 hc
                      refine ⟨cs, ty, c1, c2, c3, fun i' k e a v he ha hv => ?_⟩
                      rcases Nat.lt_or_ge i' es.length with hi | hi
                      · rw [List.getElem?_append_left hi] at he
                        exact c4 i' k e a v he ha hv
                      · rw [List.getElem?_append_right hi, List.getElem?_replicate] at he
                        split at he
                        · cases he
                          rw [List.getElem?_replicate] at ha
                          split at ha
                          · cases ha; exact .junk _ _
                          · cases ha
                        · cases he)
                  rw [upd_self] at key
                  have hlenH : ∀ e', (setH s.H q e').length = s.H.length := fun e' => by rw [setH_length s.H q e' (Nat.le_of_lt hqlt)]; omega
                  refine wp_runs (x := sliced A 0 h.toNat cap0 i.size) (w' := w) (.inl ?_) (hn w S ρ _ _ (hs.step (v := .own q v h.toNat) ?_ key.1 key.2 o.dst) key.2 hk)
                  · unfold execOp
                    rw [ho]
                    simp only [hlo, hmx, Option.map_none, hvx]
                    simp only [slLo, slHi, Int.toNat_zero] at hrun
                    rw [Sem.run_bind, hrun]
                    rfl
                  · unfold sliced
                    rw [Nat.sub_zero, Nat.sub_zero]
                    refine .own _ _ _ _ _ _ (by show q < (setH s.H q _).length; rw [hlenH]; exact hqlt) (by rw [e1]; exact Nat.le_refl _) (by omega) ?_ ?_
                    · intro h0
                      have := k2 (by omega)
                      subst this
                      split <;> rfl
                    · intro _
                      refine ⟨k1, fun h0 => ?_⟩
                      rw [if_neg (by omega), k2 h0]
                      simp [Addr.add]
      · cases hx
  · cases hx

theorem wOp_sound {te : TE} (hte : TEok P te) {Γ : GE} (hΓ : Sound P Γ) {s : St} {a : Act} (hs : RS w S ρ s a) (o : Oper) {K : Kont} (hw : wOp te Γ o s.T s.H K) {next : Act → World → Prop} {Q : Exit → Act → World → Prop} (hn : Next' P w S ρ s.H K next) :
    o.wp P a w next Q := by
  unfold wOp at hw
  cases he : evOp te s.H.length s.T s.H o.op with
  | some out =>
    rw [he] at hw
    obtain ⟨c, v, wr, r, x, raw⟩ := out
    simp only [opK] at hw
    have plain : condK c (rawK te o.op v (fun v => K ⟨putT s.T v o.dst, putH s.H wr⟩) raw) → o.wp P a w next Q := by
      intro hw
      obtain ⟨hc, hk⟩ := condK_split hw
      have hk := rawK_sound hk
      obtain ⟨x, w', S', ρ', s1, s2, s3, s4⟩ := op_sim hte hs (Fresh.end s.H) o he hc
      exact wp_runs s1 (hn w' S' ρ' _ _ (hs.step s2 s3 s4 o.dst) s4 hk)
    cases hx : extOf te s.T s.H o.op with
    | none => rw [hx] at hw; exact plain hw
    | some q =>
      obtain ⟨q, ver, len, h⟩ := q
      rw [hx] at hw
      rcases hw with hw | hw
      · exact plain hw
      · exact ext_sound hte hs o hx hw hn
  | none =>
    rw [he] at hw
    simp only [opK] at hw
    unfold wSpecial at hw
    split at hw
    · rename_i f args tys ho
      exact call_sound hΓ hs o ho hw hn
    · rename_i b args tys ho
      unfold wBuiltin at hw
      split at hw
      · rename_i x t hargs htys
        exact cap_sound hte hs o (x := x) (t := t) (by rw [ho, toList_one hargs, toList_one htys]) hw hn
      · rename_i x y t u hargs htys
        exact app_sound hte hs o (x := x) (y := y) (t := t) (u := u) (by rw [ho, toList_two hargs, toList_two htys]) hw hn
      · exact hw.elim
    · rename_i op t x y ty ho
      exact nil_sound hte hs o ho hw hn
    · exact hw.elim

end
end Go.Rf
