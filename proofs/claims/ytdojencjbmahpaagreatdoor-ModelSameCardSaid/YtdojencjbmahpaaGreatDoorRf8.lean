/-
  THE SYMBOLIC EXECUTOR, part 8: the operations that leave the memory alone.
-/
import Derived.Test.YtdojencjbmahpaaGreatDoorRf7
import Derived.Laws.Slices
import Derived.Laws.BytesArg
set_option linter.unusedVariables false
set_option linter.unusedSimpArgs false
namespace Go.Rf

section
variable {P : Program} {w : World} {S : Nat → Prop} {ρ : Reg} {H : List Ent}

theorem retc_some {c : Prop} [d : Decidable c] {v : AV} {out : Out} (h : retc c v = some out) : out = ⟨some ⟨c, d⟩, v, [], [], none, false⟩ := by unfold retc at h; cases h; rfl
theorem ret_some {v : AV} {out : Out} (h : ret v = some out) : out = ⟨none, v, [], [], none, false⟩ := by unfold ret at h; cases h; rfl

theorem leI_eq (a b : Int) : leI a b = decide (a ≤ b) := by
  cases a with
  | ofNat m =>
    cases b with
    | ofNat n =>
      show Nat.ble m n = _
      cases h : Nat.ble m n with
      | true => have := Nat.le_of_ble_eq_true h; exact (decide_eq_true (by simp only [Int.ofNat_eq_natCast]; omega)).symm
      | false => have : ¬ m ≤ n := fun h' => by rw [Nat.ble_eq_true_of_le h'] at h; cases h
                 exact (decide_eq_false (by simp only [Int.ofNat_eq_natCast]; omega)).symm
    | negSucc n => exact (decide_eq_false (by simp only [Int.ofNat_eq_natCast]; omega)).symm
  | negSucc m =>
    cases b with
    | ofNat n => exact (decide_eq_true (by simp only [Int.ofNat_eq_natCast]; omega)).symm
    | negSucc n =>
      show Nat.ble n m = _
      cases h : Nat.ble n m with
      | true => have := Nat.le_of_ble_eq_true h; exact (decide_eq_true (by omega)).symm
      | false => have : ¬ n ≤ m := fun h' => by rw [Nat.ble_eq_true_of_le h'] at h; cases h
                 exact (decide_eq_false (by omega)).symm
theorem not_leI (a b : Int) : (!leI b a) = decide (a < b) := by
  rw [leI_eq]
  by_cases h : a < b
  · rw [decide_eq_true h, decide_eq_false (by omega)]; rfl
  · rw [decide_eq_false h, decide_eq_true (by omega)]; rfl

theorem plain_int (t : TypeId) (x y : Operand) (op : BinOp) (k : IntKind) (a : Int) (k' : IntKind) (b : Int) {out : Out} (he : evBinI op k a k' b (isShift op) = some out) (hc : condK out.c True) :
    Plain P w S ρ H (do eqGuard op t x y (.int k a) (.int k' b); binOp op t (.int k a) (.int k' b)) out := by
  have hg : eqGuard op t x y (.int k a) (.int k' b) = Pure.pure () := eqGuard_at_int op t x y _ k a
  rw [hg]
  cases op <;> simp only [isShift, evBinI, evShift, evInt, not_leI] at he <;> try simp only [leI_eq] at he
  case shl =>
    have := retc_some he; subst this
    simp only [condK] at hc
    exact ⟨rfl, _, by simp [binOp, Op.shift, show ¬ b < 0 by omega], .int _ _ _⟩
  case shr =>
    have := retc_some he; subst this
    simp only [condK] at hc
    exact ⟨rfl, _, by simp [binOp, Op.shift, show ¬ b < 0 by omega], .int _ _ _⟩
  case quo =>
    obtain ⟨h1, h2⟩ := ifo_some he
    have := kn_eq h1; subst this
    have := retc_some h2; subst this
    simp only [condK] at hc
    exact ⟨rfl, _, by simp [binOp, Op.intDiv, hc.1], .int _ _ _⟩
  case rem =>
    obtain ⟨h1, h2⟩ := ifo_some he
    have := kn_eq h1; subst this
    have := retc_some h2; subst this
    simp only [condK] at hc
    exact ⟨rfl, _, by simp [binOp, Op.intDiv, hc.1], .int _ _ _⟩
  all_goals
    obtain ⟨h1, h2⟩ := ifo_some he
    have := kn_eq h1; subst this
    have := ret_some h2; subst this
    refine ⟨rfl, _, (by first | (simp [binOp, Op.intArith]; rfl) | (simp [binOp, Op.intCmp]; rfl) | (simp [binOp, Op.intBits]; rfl)), ?_⟩
    first
      | exact Rd.int _ _ _
      | exact Rd.bool _ _

theorem plain_str (t : TypeId) (x y : Operand) (op : BinOp) (a b : ByteArray) {out : Out} (he : evStr a b op = some out) (hc : condK out.c True) :
    Plain P w S ρ H (do eqGuard op t x y (.string a) (.string b); binOp op t (.string a) (.string b)) out := by
  have hg : eqGuard op t x y (.string a) (.string b) = Pure.pure () := eqGuard_at_string op t x y _ a
  rw [hg]
  cases op <;> simp only [evStr] at he
  case add =>
    have := retc_some he; subst this
    simp only [condK] at hc
    refine ⟨rfl, _, ?_, .str _ _⟩
    have h1 : ¬ ((a.size + b.size : Nat) : Int) > IntKind.i64.max := by
      rw [IntKind.max_i64]; omega
    simp only [binOp, Sem.run_bind, Sem.run_pure, Result.andThen_ok, Op.stringOp, if_neg h1]
  all_goals first
    | cases he; done
    | (have := ret_some he; subst this; exact ⟨rfl, _, by simp [binOp, Op.stringOp] <;> rfl, .bool _ _⟩)

theorem plain_bl (te : TE) (hte : TEok P te) (t : TypeId) (x y : Operand) (op : BinOp) (a b : Bool) {out : Out} (he : evBlT op a b (te t) = some out) :
    Plain P w S ρ H (do eqGuard op t x y (.bool a) (.bool b); binOp op t (.bool a) (.bool b)) out := by
  cases hi : te t with
  | none => rw [hi] at he; cases he
  | some i =>
    rw [hi] at he
    obtain ⟨inf, d, z, hf⟩ := hte.get hi
    simp only [evBlT] at he
    cases hk : i.kind <;> rw [hk] at he <;> try (cases he; done)
    have hd := hf.kbool hk
    have hu : P.underlying t = some .bool := by rw [← hd]; exact hf.und
    have hg : eqGuard op t x y (.bool a) (.bool b) = Pure.pure () := eqGuard_at_bool op t x y _ a
    rw [hg]
    simp only [blK] at he
    cases op <;> simp only [evBl] at he
    case eql => have := ret_some he; subst this; exact ⟨rfl, _, by rw [Sem.run_bind]; exact run_eql_bool w t a b hu, .bool _ _⟩
    case neq => have := ret_some he; subst this; exact ⟨rfl, _, by rw [Sem.run_bind]; exact run_neq_bool w t a b hu, .bool _ _⟩
    all_goals cases he

theorem consEq_some {t : Bool} {o : Option Bool} {r : Bool} (h : consEq t o = some r) : ∃ r', o = some r' ∧ r = (t && r') := by
  cases o with
  | none => cases h
  | some r' => cases h; exact ⟨r', rfl, rfl⟩

theorem run_part_one {t : TypeId} {d : TypeDesc} (hu : P.underlying t = some d) (hd : isAggD d = false) (cs : Array Value) (j : Nat) (v : Value) (hv : cs[j]? = some v) : (part t cs j).run P w = .ok v w := by
  have : (isAgg t).run P w = .ok false w := by
    unfold isAgg
    rw [Sem.run_bind, run_underlying hu]
    cases d <;> first | rfl | (simp [isAggD] at hd; done)
  unfold part
  rw [Sem.run_bind, this]
  simp [hv]

theorem run_eqFields (xs ys : Array Value) (n : Nat) : ∀ (zs cs ds : List AV) (fs : List Field) (j : Nat) (r : Bool), qOK P j zs fs = true → eqCells zs cs ds = some r →
    (∀ (i : Nat) (a : AV), cs[i]? = some a → ∃ v, xs[j + i]? = some v ∧ Rd w S ρ n a v) → (∀ (i : Nat) (a : AV), ds[i]? = some a → ∃ v, ys[j + i]? = some v ∧ Rd w S ρ n a v) →
    (Op.eqFields 9999 xs ys fs).run P w = .ok r w := by
  intro zs
  induction zs with
  | nil =>
    intro cs ds fs j r hq he _ _
    cases fs with
    | cons => simp [qOK] at hq
    | nil =>
      cases cs <;> cases ds <;> simp [eqCells] at he
      subst he
      rfl
  | cons z zs ih =>
    intro cs ds fs j r hq he hx hy
    cases fs with
    | nil => simp [qOK] at hq
    | cons f fs =>
      simp only [qOK, Bool.and_eq_true, beq_iff_eq, bne_iff_ne, ne_eq] at hq
      obtain ⟨⟨⟨h1, h2⟩, h3⟩, h4⟩ := hq
      cases hu : P.underlying f.type with
      | none => simp [hu] at h1
      | some d =>
        simp only [hu] at h1
        have main : ∀ (a b : AV) (cs' ds' : List AV) (t r' : Bool), cs = a :: cs' → ds = b :: ds' → eqCells zs cs' ds' = some r' → r = (t && r') → isAggD d = false →
            (∀ u v, Rd w S ρ n a u → Rd w S ρ n b v → (Op.equalIn 9999 f.type u v).run P w = .ok t w) → (Op.eqFields 9999 xs ys (f :: fs)).run P w = .ok r w := by
          intro a b cs' ds' t r' hcs hds hrec hr hd heq
          subst hcs; subst hds
          obtain ⟨u, hu1, hu2⟩ := hx 0 a rfl
          obtain ⟨v, hv1, hv2⟩ := hy 0 b rfl
          have p1 := run_part_one (P := P) (w := w) hu hd xs j u hu1
          have p2 := run_part_one (P := P) (w := w) hu hd ys j v hv1
          have ihr := ih cs' ds' fs (j + 1) r' h4 hrec (fun i c hc => by
            obtain ⟨v, k1, k2⟩ := hx (i + 1) c (by simpa using hc)
            exact ⟨v, by rw [← k1]; congr 1; omega, k2⟩) (fun i c hc => by
            obtain ⟨v, k1, k2⟩ := hy (i + 1) c (by simpa using hc)
            exact ⟨v, by rw [← k1]; congr 1; omega, k2⟩)
          simp only [Op.eqFields, ne_eq, h3, not_false_eq_true, if_true, Sem.run_bind, h2, p1, Result.andThen_ok, p2, heq u v hu2 hv2]
          subst hr
          cases t
          · rfl
          · simpa using ihr
        unfold eqCells at he
        split at he
        · cases ‹_ :: _ = []›
        · rename_i k0 n0 zs' k a xs' l b ys' heq1
          cases heq1
          obtain ⟨g1, g2⟩ := ifo_some he
          have := kn_eq g1; subst this
          obtain ⟨r', g3, g4⟩ := consEq_some g2
          cases d <;> simp [qOne] at h1
          refine main _ _ _ _ (a == b) r' rfl rfl g3 g4 rfl ?_
          intro u v hu' hv'
          cases hu'; cases hv'
          exact run_equalIn_int w 9998 f.type _ _ a b hu
        · rename_i s0 zs' a xs' b ys' heq1
          cases heq1
          obtain ⟨r', g3, g4⟩ := consEq_some he
          cases d <;> simp [qOne] at h1
          refine main _ _ _ _ (a.toList == b.toList) r' rfl rfl g3 g4 rfl ?_
          intro u v hu' hv'
          cases hu'; cases hv'
          exact run_equalIn_string w 9998 f.type a b hu
        · rename_i s0 zs' a xs' b ys' heq1
          cases heq1
          obtain ⟨r', g3, g4⟩ := consEq_some he
          cases d <;> simp [qOne] at h1
          refine main _ _ _ _ (a == b) r' rfl rfl g3 g4 rfl ?_
          intro u v hu' hv'
          cases hu'; cases hv'
          exact run_equalIn_bool w 9998 f.type a b hu
        · cases he

theorem plain_agg (te : TE) (hte : TEok P te) (t : TypeId) (x y : Operand) (op : BinOp) (cs ds : List AV) {u v : Value} (hu : Rd w S ρ H.length (.agg cs) u) (hv : Rd w S ρ H.length (.agg ds) v) {out : Out} (he : evAggT op cs ds (te t) = some out) :
    Plain P w S ρ H (do eqGuard op t x y u v; binOp op t u v) out := by
  cases hi : te t with
  | none => rw [hi] at he; cases he
  | some i =>
    rw [hi] at he
    obtain ⟨inf, d, z, hf⟩ := hte.get hi
    simp only [evAggT] at he
    obtain ⟨h1, h2⟩ := ifo_some he
    obtain ⟨fs, rfl, q1, q2, q3⟩ := hf.eq h1
    have hfo : P.underlying t = some (.struct (P.fieldsOf t)) := by
      have := hf.und
      simp [Program.fieldsOf, this]
    have hfs : P.fieldsOf t = fs := by simp [Program.fieldsOf, hf.und]
    cases hu with
    | agg _ _ vs hl h1v hr =>
      cases hv with
      | agg _ _ us hl' h1u hr' =>
        cases hec : eqCells i.zero cs ds with
        | none => rw [hec] at h2; cases op <;> cases h2
        | some r =>
          rw [hec] at h2
          have hrun : (Op.equalIn 10000 t (.agg vs.toArray) (.agg us.toArray)).run P w = .ok r w := by
            rw [run_equalIn_struct w 9999 t _ _ hfo q2, hfs]
            refine run_eqFields (S := S) (ρ := ρ) _ _ H.length i.zero cs ds fs.toList 0 r q1 hec ?_ ?_
            · intro j a ha
              have hj := (List.getElem?_eq_some_iff.1 ha).1
              exact ⟨vs[j]'(by omega), by simp [List.getElem?_eq_getElem (show j < vs.length by omega)], hr j a _ ha (List.getElem?_eq_getElem _)⟩
            · intro j a ha
              have hj := (List.getElem?_eq_some_iff.1 ha).1
              exact ⟨us[j]'(by omega), by simp [List.getElem?_eq_getElem (show j < us.length by omega)], hr' j a _ ha (List.getElem?_eq_getElem _)⟩
          cases op <;> try (cases h2; done)
          · have := ret_some h2; subst this
            refine ⟨rfl, _, ?_, .bool _ _⟩
            rw [Sem.run_bind, run_eqGuard_agg w _ t x y _ _ q3, Result.andThen_ok, run_eql_struct, hrun]; rfl
          · have := ret_some h2; subst this
            refine ⟨rfl, _, ?_, .bool _ _⟩
            rw [Sem.run_bind, run_eqGuard_agg w _ t x y _ _ q3, Result.andThen_ok, run_neq_struct, hrun]; rfl

theorem plain_bin (te : TE) (hte : TEok P te) (t : TypeId) (x y : Operand) (op : BinOp) {a b : AV} {u v : Value} (hu : Rd w S ρ H.length a u) (hv : Rd w S ρ H.length b v) {out : Out} (he : evBin op (te t) a b = some out) (hc : condK out.c True) :
    Plain P w S ρ H (do eqGuard op t x y u v; binOp op t u v) out := by
  unfold evBin at he
  split at he
  · cases hu; cases hv; exact plain_int t x y op _ _ _ _ he hc
  · cases hu; cases hv; exact plain_str t x y op _ _ he hc
  · cases hu; cases hv; exact plain_bl te hte t x y op _ _ he
  · exact plain_agg te hte t x y op _ _ hu hv he
  · cases he

theorem plain_un (op : UnOp) {a : AV} {u : Value} (hu : Rd w S ρ H.length a u) {out : Out} (he : evUn op a = some out) : Plain P w S ρ H (Op.unary op u) out := by
  unfold evUn at he
  split at he
  · cases hu; have := ret_some he; subst this; exact ⟨rfl, _, rfl, .bool _ _⟩
  · cases hu; have := ret_some he; subst this; exact ⟨rfl, _, rfl, .int _ _ _⟩
  · cases he

theorem plain_field {te : TE} (hte : TEok P te) (t : TypeId) (f : Nat) {a : AV} {u : Value} (hu : Rd w S ρ H.length a u) {out : Out} (he : evFieldT a f (te t) = some out) : Plain P w S ρ H (Instr.field t u f) out := by
  cases hi : te t with
  | none => rw [hi] at he; cases he
  | some i =>
    rw [hi] at he
    obtain ⟨inf, d, z, hf⟩ := hte.get hi
    simp only [evFieldT] at he
    obtain ⟨h1, h2⟩ := ifo_some he
    obtain ⟨fs, g, rfl, hg, hone⟩ := hf.flds f (lenLe_le h1)
    cases hu with
    | agg _ cs vs hl hv1 hr =>
      simp only [evField] at h2
      obtain ⟨h3, h4⟩ := ifo_some h2
      have hle := lenLe_le h3
      have := ret_some h4; subst this
      unfold fOne at hone
      cases hgi : P.info? g.type with
      | none => simp [hgi] at hone
      | some gi =>
        cases hgu : P.underlying g.type with
        | none => simp [hgi, hgu] at hone
        | some gd =>
          simp only [hgi, hgu, Bool.and_eq_true, beq_iff_eq, decide_eq_true_eq, Bool.or_eq_true] at hone
          obtain ⟨⟨⟨⟨o1, o2⟩, o3⟩, o4⟩, o5⟩ := hone
          have hagg : (isAgg g.type).run P w = .ok (isAggD gd) w := by
            unfold isAgg
            rw [Sem.run_bind, run_underlying hgu]
            cases gd <;> rfl
          have hsz : (sizeOf g.type).run P w = .ok gi.size w := by simp [sizeOf, typeInfo, hgi]
          have hrun : (part g.type vs.toArray g.offset).run P w = .ok (if (i.fields.getD f (0, 0, false)).2.2 then .agg ((vs.drop (i.fields.getD f (0, 0, false)).1).take (i.fields.getD f (0, 0, false)).2.1).toArray else ((vs.drop (i.fields.getD f (0, 0, false)).1).take (i.fields.getD f (0, 0, false)).2.1).getD 0 undef) w := by
            unfold part
            rw [Sem.run_bind, hagg, ← o4]
            cases hb : isAggD gd with
            | true =>
              simp only [Result.andThen_ok, if_true, Sem.run_bind, hsz, Sem.run_pure, o1, o2]
              congr 2
              apply Array.ext'
              rw [Array.toList_extract, List.extract_eq_take_drop]
              simp
            | false =>
              have : (i.fields.getD f (0, 0, false)).2.1 = 1 := by
                rcases o5 with o5 | o5
                · rw [← o4, hb] at o5; cases o5
                · exact o5
              rw [this] at hle ⊢
              have hlt : (i.fields.getD f (0, 0, false)).1 < vs.length := by omega
              have hget : vs.toArray[g.offset]? = some (vs[(i.fields.getD f (0, 0, false)).1]) := by
                rw [o1, List.getElem?_toArray, List.getElem?_eq_getElem hlt]
              simp only [Result.andThen_ok, Bool.false_eq_true, if_false, hget, Sem.run_pure]
              congr 1
              have h0 : ((vs.drop (i.fields.getD f (0, 0, false)).1).take 1)[0]? = some vs[(i.fields.getD f (0, 0, false)).1] := by
                rw [List.getElem?_take, if_pos Nat.one_pos, List.getElem?_drop]
                exact List.getElem?_eq_getElem hlt
              show _ = ((List.take 1 (List.drop (i.fields.getD f (0, 0, false)).1 vs))[0]?).getD undef
              rw [h0]
              rfl
          refine ⟨rfl, _, ?_, mkVal_rd (cells := (cs.drop (i.fields.getD f (0, 0, false)).1).take (i.fields.getD f (0, 0, false)).2.1) (vs := (vs.drop (i.fields.getD f (0, 0, false)).1).take (i.fields.getD f (0, 0, false)).2.1) ?_ ?_ ?_ ?_⟩
          · unfold Instr.field
            rw [Sem.run_bind, run_underlying hf.und]
            simp only [Result.andThen_ok, hg]
            simpa [asAgg] using hrun
          · simp [hl]
          · intro v hv
            exact hv1 v (List.mem_of_mem_drop (List.mem_of_mem_take hv))
          · intro j a v ha hv
            rw [List.getElem?_take] at ha hv
            split at ha
            · rename_i hj
              rw [if_pos hj] at hv
              rw [List.getElem?_drop] at ha hv
              exact hr _ a v ha hv
            · cases ha
          · intro hb
            have : (i.fields.getD f (0, 0, false)).2.1 = 1 := by
              rcases o5 with o5 | o5
              · rw [hb] at o5; cases o5
              · exact o5
            rw [List.length_take, List.length_drop]
            omega
    | _ => cases h2

theorem plain_fieldAddr {te : TE} (hte : TEok P te) (t : TypeId) (f : Nat) {a : AV} {u : Value} (hu : Rd w S ρ H.length a u) {out : Out} (he : evFieldAddrT a f (te t) = some out) : Plain P w S ρ H (Instr.fieldAt t u f) out := by
  cases hi : te t with
  | none => rw [hi] at he; cases he
  | some i =>
    rw [hi] at he
    obtain ⟨inf, d, z, hf⟩ := hte.get hi
    simp only [evFieldAddrT] at he
    obtain ⟨h1, h2⟩ := ifo_some he
    obtain ⟨fs, g, rfl, hg, hone⟩ := hf.flds f (lenLe_le h1)
    unfold fOne at hone
    cases hgi : P.info? g.type with
    | none => simp [hgi] at hone
    | some gi =>
      cases hgu : P.underlying g.type with
      | none => simp [hgi, hgu] at hone
      | some gd =>
        simp only [hgi, hgu, Bool.and_eq_true, beq_iff_eq, decide_eq_true_eq, Bool.or_eq_true] at hone
        obtain ⟨⟨⟨⟨o1, o2⟩, o3⟩, o4⟩, o5⟩ := hone
        have hsz : (sizeOf g.type).run P w = .ok gi.size w := by simp [sizeOf, typeInfo, hgi]
        have hrun : ∀ A : Addr, (Instr.fieldAt t (.pointer (some A)) f).run P w = .ok (.pointer (some (A.add (i.fields.getD f (0, 0, false)).1))) w := by
          intro A
          unfold Instr.fieldAt
          rw [Sem.run_bind, run_underlying hf.und]
          simp [hg, Instr.sureAddr, fieldPlace, hsz, show ¬ gi.size = 0 by omega, o1]
        cases hu with
        | ptr _ p off A hp hv h =>
          have := ret_some h2; subst this
          refine ⟨rfl, _, hrun A, .ptr _ _ _ _ hp hv (fun h' => ?_)⟩
          rw [h h', Addr.add_lit]
        | eptr _ p ver j k A hp hv h =>
          have := ret_some h2; subst this
          refine ⟨rfl, _, hrun A, .eptr _ _ _ _ _ _ hp hv (fun h' hlt => ?_)⟩
          rw [h h' hlt, Addr.add_lit, Nat.add_assoc]
        | rptr _ sz es j k A e cell he' hl hcell h =>
          have := ret_some h2; subst this
          refine ⟨rfl, _, hrun A, .rptr _ sz es j _ _ e cell he' hl (fun r h3 h4 => ?_) h⟩
          obtain ⟨c1, c2, c3⟩ := hcell r (by omega) h4
          refine ⟨by rw [Addr.add_block]; exact c1, ?_, c3⟩
          rw [Addr.add_add, ← c2]
          congr 2
          omega
        | _ => cases h2

theorem plain_extract (j : Nat) {a : AV} {u : Value} (hu : Rd w S ρ H.length a u) {out : Out} (he : evExtract j a = some out) : Plain P w S ρ H (Instr.extract u j) out := by
  unfold evExtract at he
  split at he
  · cases hu with
    | tup _ cs vs hl h =>
      obtain ⟨h1, h2⟩ := ifo_some he
      have hlt := lenLe_le h1
      have := ret_some h2; subst this
      have hj : j < vs.length := by omega
      refine ⟨rfl, vs[j], ?_, ?_⟩
      · simp [Instr.extract, hj]
      · exact h j _ _ (by rw [List.getD_eq_getElem?_getD, List.getElem?_eq_getElem (show j < _ by omega)]; rfl) (List.getElem?_eq_getElem hj)
  · cases he

theorem esz1_get (hm : RH w S ρ H) {q esz : Nat} (h : esz1 esz (H.getD q .none) = true) : (ρ q).sz = esz := by
  cases hq : H.getD q .none with
  | none => rw [hq] at h; cases h
  | var => rw [hq] at h; cases h
  | arr cl v sz cap es =>
    rw [hq] at h
    have := hm.ent q _ (getD_some hq (by simp))
    rw [this.2.2.1]
    exact eqb_eq h

theorem elemI_some {te : TE} {o : Option TI} {i : TI} (h : elemI te o = some i) : ∃ j e, o = some j ∧ j.kind = .slice e ∧ te e = some i := by
  cases o with
  | none => cases h
  | some j =>
    simp only [elemI, elemK] at h
    split at h
    · rename_i e hk
      exact ⟨j, e, rfl, hk, h⟩
    · cases h

theorem plain_indexAddr {te : TE} (hte : TEok P te) (hm : RH w S ρ H) (t : TypeId) {a b : AV} {u v : Value} (hu : Rd w S ρ H.length a u) (hv : Rd w S ρ H.length b v) {out : Out} (he : evIndexAddrT H b a (elemI te (te t)) = some out) (hc : condK out.c True) :
    Plain P w S ρ H (Instr.indexAt t u v) out := by
  cases hi : elemI te (te t) with
  | none => rw [hi] at he; cases he
  | some i =>
    rw [hi] at he
    obtain ⟨j, e, h1, h2, h3⟩ := elemI_some hi
    obtain ⟨inf, d, z, hf⟩ := hte.get h1
    obtain ⟨inf', d', z', hf'⟩ := hte.get h3
    have hd := hf.kslice h2
    subst hd
    have hel : P.elem t = e := by simp [Program.elem, hf.und]
    have hut : P.underlying t = some (.slice (P.elem t)) := by rw [hel]; exact hf.und
    simp only [evIndexAddrT] at he
    have hrun : ∀ (A : Addr) (len cap : Nat) (k : IntKind) (n : Int), 0 ≤ n → n < len → (Instr.indexAt t (.slice (some A) len cap) (.int k n)).run P w = .ok (.pointer (some (A.add (n.toNat * i.size)))) w := by
      intro A len cap k n h0 hlt
      rw [run_indexAt_slice w t A len cap k n hut, if_pos ⟨h0, hlt⟩, hel, hf'.run_size]
      rfl
    unfold evIndexAddr at he
    split at he
    · rename_i k n sz fr es
      cases hv
      obtain ⟨h4, h5⟩ := ifo_some he
      have := eqb_eq h4; subst this
      have := retc_some h5; subst this
      simp only [condK] at hc
      obtain ⟨⟨h0, hlt⟩, _⟩ := hc
      cases hu with
      | sl _ _ _ _ A len cap cell hl hc' hx hfr hsz hcell hA h =>
        have hlen : n < len := by rw [← hl]; exact hlt
        have hAs := hA (by omega)
        cases A with
        | none => cases hAs
        | some A =>
          have hn : n.toNat < es.length := by omega
          refine ⟨rfl, _, hrun A len cap k n h0 hlen, .rptr _ _ es _ _ _ es[n.toNat] (fun k => cell n.toNat k) (List.getElem?_eq_getElem hn) (hsz _ (List.getElem_mem hn)) (fun r _ hr => ?_) (fun r x hx' => h n.toNat r _ x (List.getElem?_eq_getElem hn) hx')⟩
          obtain ⟨a, c1, c2, c3, c4⟩ := hcell n.toNat r (by omega) hr
          cases c1
          refine ⟨by rw [Addr.add_block]; exact c2, ?_, c4⟩
          rw [Addr.add_add]
          exact c3
    · rename_i k n q ver len
      cases hv
      obtain ⟨h4, h5⟩ := ifo_some he
      have hsz := esz1_get hm h4
      have := retc_some h5; subst this
      simp only [condK] at hc
      obtain ⟨⟨h0, hlt⟩, _⟩ := hc
      cases hu with
      | own _ _ _ _ A cap hp hver hcp hA h =>
        have hAs := hA (by omega)
        cases A with
        | none => cases hAs
        | some A =>
          refine ⟨rfl, _, hrun A len cap k n h0 hlt, .eptr _ _ _ _ _ _ hp hver (fun h' hlt' => ?_)⟩
          obtain ⟨k1, k2⟩ := h h'
          have := k2 (by omega)
          cases this
          rw [Addr.add_lit, hsz]
          simp
    · rename_i k n q ver off len
      cases hv
      obtain ⟨h4, h5⟩ := ifo_some he
      have hsz := esz1_get hm h4
      have := retc_some h5; subst this
      simp only [condK] at hc
      obtain ⟨⟨h0, hlt⟩, _⟩ := hc
      cases hu with
      | osub _ _ _ _ _ A cap hp hver hcp hA h =>
        have hAs := hA (by omega)
        cases A with
        | none => cases hAs
        | some A =>
          refine ⟨rfl, _, hrun A len cap k n h0 hlt, .eptr _ _ _ _ _ _ hp hver (fun h' hlt' => ?_)⟩
          obtain ⟨k1, k2⟩ := h h'
          have := k2 (by omega)
          cases this
          rw [Addr.add_lit, hsz, Nat.add_mul]
          simp
    · cases he

theorem plain_index {te : TE} (hte : TEok P te) (t : TypeId) {a b : AV} {u v : Value} (hu : Rd w S ρ H.length a u) (hv : Rd w S ρ H.length b v) {out : Out} (he : evIndexT b a (te t) = some out) (hc : condK out.c True) :
    Plain P w S ρ H (Instr.index t u v) out := by
  cases hi : te t with
  | none => rw [hi] at he; cases he
  | some i =>
    rw [hi] at he
    obtain ⟨inf, d, z, hf⟩ := hte.get hi
    simp only [evIndexT] at he
    cases hk : i.kind <;> rw [hk] at he <;> try (cases he; done)
    have hd := hf.kstr hk
    subst hd
    simp only [indexK] at he
    unfold evIndex at he
    split at he
    · rename_i k n s
      cases hu; cases hv
      have := retc_some he; subst this
      simp only [condK] at hc
      obtain ⟨⟨h0, hlt⟩, _⟩ := hc
      have hn : n.toNat < s.size := by omega
      refine ⟨rfl, _, ?_, .int _ _ _⟩
      have hg : s[n.toNat]? = some (s.data.toList.getD n.toNat 0) := by
        have h9 : n.toNat < s.data.toList.length := by rw [Array.length_toList]; exact hn
        rw [List.getD_eq_getElem?_getD, List.getElem?_eq_getElem h9]
        rw [getElem?_pos s n.toNat hn]
        rfl
      simp only [Instr.index, asIntOf, Sem.run_bind, Sem.run_pure, Result.andThen_ok, run_underlying hf.und, h0, if_true, hg, sb]
    · cases he

end
end Go.Rf
