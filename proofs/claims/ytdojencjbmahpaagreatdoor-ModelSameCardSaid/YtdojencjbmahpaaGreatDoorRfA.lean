/-
  THE SYMBOLIC EXECUTOR, part 10: what is newly made; append, copy, clear.
-/
import Derived.Test.YtdojencjbmahpaaGreatDoorRf9
set_option linter.unusedVariables false
set_option linter.unusedSimpArgs false
namespace Go.Rf

/-- Parts put into cells, one behind the other. -/
theorem foldl_set_toList : ∀ (vs : List Value) (k o : Nat) (cs : Array Value), o + k + vs.length ≤ cs.size →
    ((vs.zipIdx k).foldl (fun cs (c, j) => cs.setIfInBounds (o + j) c) cs).toList = cs.toList.take (o + k) ++ vs ++ cs.toList.drop (o + k + vs.length)
  | [], k, o, cs, _ => by simp
  | v :: vs, k, o, cs, h => by
    simp only [List.zipIdx_cons, List.foldl_cons]
    rw [foldl_set_toList vs (k + 1) o _ (by simp at h ⊢; omega)]
    have := list_seg_step cs.toList (o + k) v vs (by simp at h ⊢; omega)
    simpa [Array.toList_setIfInBounds, Nat.add_assoc] using this

section
variable {P : Program} {w : World} {S : Nat → Prop} {ρ : Reg} {H : List Ent}

/-! ### Structs -/
theorem places_of {P : Program} : ∀ {fs : List (Nat × Nat × Bool)} {gs : List Field}, fOK P fs gs = true → gs.mapM (fun f => (P.info? f.type).map fun i => (f.offset, i.size)) = some (fs.map fun x => (x.1, x.2.1))
  | [], [], _ => rfl
  | [], _ :: _, h => by simp [fOK] at h
  | _ :: _, [], h => by simp [fOK] at h
  | x :: fs, g :: gs, h => by
    simp only [fOK, Bool.and_eq_true] at h
    have ih := places_of h.2
    have h1 := h.1
    unfold fOne at h1
    cases hi : P.info? g.type with
    | none => simp [hi] at h1
    | some i =>
      cases hu : P.underlying g.type with
      | none => simp [hi, hu] at h1
      | some d =>
        simp only [hi, hu, Bool.and_eq_true, beq_iff_eq, decide_eq_true_eq] at h1
        obtain ⟨⟨⟨⟨o1, o2⟩, _⟩, _⟩, _⟩ := h1
        simp [List.mapM_cons, hi, ih, o1, o2]

theorem fill_struct {fields : List (Nat × Nat × Bool)} {E : Operand → AV} {ev' : Operand → Value} (hev : ∀ x, Rd w S ρ H.length (E x) (ev' x)) : ∀ (parts : List (Nat × Operand)) (cells out : List AV) (cs : Array Value), CellsRd w S ρ H.length cells cs →
    fillParts fields E parts (some cells) = some out → ∃ cs', Instr.fill (fun i => (fields.map fun x => (x.1, x.2.1))[i]?) cs (parts.map fun (i, x) => (i, ev' x)) = some cs' ∧ CellsRd w S ρ H.length out cs'
  | [], cells, out, cs, h, he => by
    simp only [fillParts, Option.some.injEq] at he
    subst he
    exact ⟨cs, rfl, h⟩
  | (i, x) :: parts, cells, out, cs, h, he => by
    simp only [fillParts] at he
    cases hc : cellsOf (E x) with
    | none =>
      rw [hc] at he
      simp only [fillPart] at he
      cases parts <;> simp [fillParts] at he
    | some as =>
      rw [hc] at he
      cases hp : fillPart fields cells i (some as) with
      | none => rw [hp] at he; cases parts <;> simp [fillParts] at he
      | some cells' =>
        rw [hp] at he
        simp only [fillPart] at hp
        obtain ⟨h1, h2⟩ := ifo_some hp
        cases h2
        obtain ⟨h3, h4⟩ := andB_true h1
        obtain ⟨h5, h6⟩ := andB_true h4
        have hi := lenLe_le h3
        have hn := lenEq_eq h5
        have hfit := lenLe_le h6
        have hcx := (hev x).cells hc
        have hget : (fields.map fun x => (x.1, x.2.1))[i]? = some ((fields.getD i (0, 0, false)).1, (fields.getD i (0, 0, false)).2.1) := by
          rw [List.getElem?_map, List.getD_eq_getElem?_getD, List.getElem?_eq_getElem (show i < fields.length by omega)]
          rfl
        have hstep := CellsRd.setCells as (ev' x).cells.toList (fields.getD i (0, 0, false)).1 cells cs h (by simpa using hcx.1) (fun v hv => hcx.2.1 v (by simpa using hv)) (fun j a v ha hv => hcx.2.2 j a v ha (by simpa using hv)) 0 _ rfl
        obtain ⟨cs', k1, k2⟩ := fill_struct hev parts _ out _ hstep he
        refine ⟨cs', ?_, k2⟩
        have e1 : (ev' x).cells.size = (fields.getD i (0, 0, false)).2.1 := by rw [hcx.1, hn]
        have e2 : ¬ (fields.getD i (0, 0, false)).1 + (ev' x).cells.size > cs.size := by rw [e1, h.1]; omega
        have e3 : ((ev' x).cells.zipIdx.foldl (fun cs (c, j) => cs.setIfInBounds ((fields.getD i (0, 0, false)).1 + j) c) cs) = ((ev' x).cells.toList.zipIdx 0).foldl (fun cs (c, j) => cs.setIfInBounds ((fields.getD i (0, 0, false)).1 + j) c) cs := by
          rw [← Array.foldl_toList, Array.toList_zipIdx]
        simp only [List.map_cons, Instr.fill, hget]
        rw [if_neg (by simp only [Bool.or_eq_true, bne_iff_ne, ne_eq, decide_eq_true_eq]; exact fun h => h.elim (fun h => h e1) e2), e3]
        exact k1

theorem build_step {te : TE} (hte : TEok P te) (hm : RH w S ρ H) (t : TypeId) {E : Operand → AV} {ev' : Operand → Value} (hev : ∀ x, Rd w S ρ H.length (E x) (ev' x)) (parts : Array (Nat × Operand)) {out : Out} (he : evBuildT E parts.toList (te t) = some out) :
    Step P w S ρ H (Instr.build t (parts.map fun (i, x) => (i, ev' x))) out.v (putH H out.w) := by
  cases hi : te t with
  | none => rw [hi] at he; cases he
  | some i =>
    rw [hi] at he
    obtain ⟨inf, d, z, hf⟩ := hte.get hi
    simp only [evBuildT] at he
    cases hk : i.kind.isAgg with
    | false => rw [hk] at he; cases he
    | true =>
      rw [hk] at he
      simp only [buildK] at he
      have hd : ∃ fs, d = .struct fs := by
        have := hf.kind
        unfold kOK at this
        split at this <;> simp_all [TK.isAgg]
      obtain ⟨fs, rfl⟩ := hd
      cases hfp : fillParts i.fields E parts.toList (some i.zero) with
      | none => rw [hfp] at he; cases he
      | some cells =>
        rw [hfp] at he
        have := ret_some he; subst this
        obtain ⟨cs', k1, k2⟩ := fill_struct hev parts.toList _ cells _ (hf.zcells w S ρ H.length).1 hfp
        have hpl := places_of (hf.fall fs rfl)
        have hb : P.built t (parts.map fun (i, x) => (i, ev' x)).toList = some cs' := by
          unfold Program.built
          simp only [hf.info, hf.und, hf.zero, hpl]
          rw [← k1]
          simp
        refine Step.pure hm (run_build w t _ cs' hb) ?_
        have hl : cells.length = cs'.toList.length := by simpa using k2.1.symm
        exact .agg _ cells cs'.toList hl (fun v hv => k2.2.1 v (by simpa using hv)) (fun j a v ha hv => k2.2.2 j a v ha (by simpa using hv))

/-! ### New variables -/
theorem alloc_step {te : TE} (hte : TEok P te) (hm : RH w S ρ H) {p : Nat} (hp : Fresh H p) (t : TypeId) {out : Out} (he : evAlloc p (te t) = some out) : Step P w S ρ H (Instr.alloc t true (.tuple #[])) out.v (putH H out.w) := by
  cases hi : te t with
  | none => rw [hi] at he; cases he
  | some i =>
    rw [hi] at he
    obtain ⟨inf, d, z, hf⟩ := hte.get hi
    cases he
    refine Step.var hm hp ?_ (hf.zcells w S ρ H.length).1 (ty := t)
    simp [Instr.alloc, hf.run_zero, newVar, newRow]
theorem box_step {te : TE} (hte : TEok P te) (hm : RH w S ρ H) {p : Nat} (hp : Fresh H p) (t : TypeId) {a : AV} {u : Value} (hu : Rd w S ρ H.length a u) {out : Out} (he : evBox p (te t) (cellsOf a) = some out) : Step P w S ρ H (Instr.box t u) out.v (putH H out.w) := by
  cases hi : te t with
  | none => rw [hi] at he; cases he
  | some i =>
    cases hc : cellsOf a with
    | none => rw [hi, hc] at he; cases he
    | some cs =>
      rw [hi, hc] at he
      obtain ⟨h1, h2⟩ := ifo_some he
      cases h2
      refine Step.var hm hp ?_ (hu.cells hc) (ty := t)
      simp [Instr.box, newVar, newRow]

/-! ### New rows -/
theorem madeCells_get (z : Array Value) (n j : Nat) (h : j < n) (hz : 0 < z.size) : (madeCells z n)[j]? = z[j % z.size]? := by
  unfold madeCells
  rw [Array.getElem?_map]
  have : (Array.range n)[j]? = some j := by simp [h]
  rw [this]
  have hlt : j % z.size < z.size := Nat.mod_lt _ hz
  simp [hlt]

theorem closedAll_zero : ∀ {as : List AV} {vs : List Value}, zAll as vs = true → closedAll as = true
  | [], [], _ => rfl
  | [], _ :: _, h => by simp [zAll] at h
  | _ :: _, [], h => by simp [zAll] at h
  | a :: as, v :: vs, h => by
    simp only [zAll, Bool.and_eq_true] at h
    have h1 := (zMatch_rd h.1 (default : World) (fun _ => False) (fun _ => ⟨0, 0, 0, 0⟩) 0).2.2
    simp [closedAll, h1, Rf.andB, closedAll_zero h.2]

theorem TF.zero_rows {t : TypeId} {i : TI} {inf : TypeInfo} {d : TypeDesc} {z : Value} (hf : TF P t i inf d z) (w : World) (S : Nat → Prop) (ρ : Reg) (k m : Nat) : RowsRd w S ρ k i.size (List.replicate m (nfs i.zero)) (madeCells z.cells (m * i.size)).toList := by
  have hz := (hf.zcells w S ρ k)
  have hn := hz.1.nfs
  have hpos := hf.pos
  refine ⟨by simp [size_madeCells], ?_, ?_, ?_⟩
  · intro v hv
    obtain ⟨j, hj⟩ := List.getElem?_of_mem hv
    have hlt := (List.getElem?_eq_some_iff.1 hj).1
    simp only [Array.length_toList, size_madeCells] at hlt
    rw [Array.getElem?_toList, madeCells_get _ _ _ hlt (by rw [hz.2]; exact hpos)] at hj
    exact hz.1.2.1 v (Array.mem_of_getElem? hj)
  · intro e he
    obtain ⟨_, rfl⟩ := List.mem_replicate.1 he
    rw [nfs_length, hf.zlen]
  · intro r c e a v he ha hv
    rw [List.getElem?_replicate] at he
    split at he
    · rename_i hr
      cases he
      have hc : c < i.size := by
        have := (List.getElem?_eq_some_iff.1 ha).1
        rwa [nfs_length, hf.zlen] at this
      rw [Array.getElem?_toList, madeCells_get _ _ _ (idx_lt hr hc) (by rw [hz.2]; exact hpos), hz.2, Nat.add_comm, Nat.add_mul_mod_self_right, Nat.mod_eq_of_lt hc] at hv
      exact hn.2.2 c a v ha hv
    · cases he

theorem make_step {te : TE} (hte : TEok P te) (hm : RH w S ρ H) {p : Nat} (hp : Fresh H p) (t : TypeId) {a b : AV} {u v : Value} (hu : Rd w S ρ H.length a u) (hv : Rd w S ρ H.length b v) {out : Out} (he : evMakeT p a b (elemI te (te t)) = some out) (hc : condK out.c True) :
    Step P w S ρ H (Instr.makeSlice t u v) out.v (putH H out.w) := by
  cases hi : elemI te (te t) with
  | none => rw [hi] at he; cases he
  | some i =>
    rw [hi] at he
    obtain ⟨j, e, h1, h2, h3⟩ := elemI_some hi
    obtain ⟨inf, d, z, hf⟩ := hte.get h1
    obtain ⟨inf', d', z', hf'⟩ := hte.get h3
    have := hf.kslice h2; subst this
    simp only [evMakeT] at he
    unfold evMake at he
    split at he
    · rename_i n m
      obtain ⟨h4, h5⟩ := ifo_some he
      cases h5
      simp only [condK] at hc
      obtain ⟨⟨rfl, h0, hb⟩, _⟩ := hc
      cases hu; cases hv
      have hbp := hf'.bpos
      have hn : n ≤ 140737488355328 := by
        have : n * 1 ≤ n * (i.bytes : Int) := Int.mul_le_mul_of_nonneg_left (by omega) h0
        omega
      have hrun := run_make (P := P) w t e inf' z' hf.und hf'.info hf'.zero .i64 .i64 n n h0 (Int.le_refl _) (by rw [hf'.bytes, Int.mul_comm]; omega) (by omega)
      rw [hf'.size] at hrun
      have hl : (List.replicate n.toNat (nfs i.zero)).length = n.toNat := by simp
      have hz := hf'.zero_rows w S ρ 0 n.toNat
      have key := hm.fresh hp (w.alloc (.cells (madeCells z'.cells (n.toNat * i.size)) e)) ⟨w.heap.size, n.toNat, 1, i.size⟩ (.arr true 1 i.size none (List.replicate n.toNat (nfs i.zero))) rfl rfl rfl rfl (by simp) (fun k hk => heap_alloc_old w _ hk) (fun _ => Nat.le_refl _)
        (fun hS hN hl' => EntRd.of_rows (by rw [upd_same]) Nat.one_pos (by rw [upd_same]) hf'.pos (by rw [upd_same]; exact Nat.le_of_eq hl) (by rw [upd_same]; simp only [maxLen]; omega) (by simp) (fun e he => hz.row e he) (by
          intro _
          rw [upd_same]
          refine ⟨_, _, heap_alloc_new w _, ?_, ?_, ?_⟩
          · have := hz.len
            simpa using this
          · intro v hv
            exact hz.one v (by simpa using hv)
          · have e1 : (madeCells z'.cells (n.toNat * i.size)).toList.take ((List.replicate n.toNat (nfs i.zero)).length * i.size) = (madeCells z'.cells (n.toNat * i.size)).toList := by rw [← hz.len]; exact List.take_length
            rw [e1]
            exact hz.mono hS (Nat.le_refl _) (hN.mono (Nat.zero_le _))))
      refine ⟨_, _, S, _, hrun, ?_, key.1, key.2⟩
      refine .own _ _ _ _ _ _ ?_ ?_ (Nat.le_refl _) (fun _ => rfl) ?_
      · show p < (setH H p _).length
        rw [setH_length H p _ hp.1]; omega
      · rw [upd_same]; exact Nat.le_refl _
      · intro _; rw [upd_same]; exact ⟨rfl, fun _ => rfl⟩
    · cases he

theorem repl_eq (n : Nat) (z : List AV) : repl n z = List.replicate n z := by
  induction n with
  | zero => rfl
  | succ n ih => simp [repl, ih, List.replicate_succ]

theorem fill_rows (cl : Bool) {sz : Nat} {E : Operand → AV} {ev' : Operand → Value} (hev : ∀ x, Rd w S ρ H.length (E x) (ev' x)) : ∀ (parts : List (Nat × Operand)) (es out : List (List AV)) (cs : Array Value), RowsRd w S ρ (if cl then 0 else H.length) sz es cs.toList →
    fillElems cl E sz parts (some es) = some out → ∃ cs', Instr.fill (fun i => some (i * sz, sz)) cs (parts.map fun (i, x) => (i, ev' x)) = some cs' ∧ RowsRd w S ρ (if cl then 0 else H.length) sz out cs'.toList ∧ out.length = es.length
  | [], es, out, cs, h, he => by
    simp only [fillElems, Option.some.injEq] at he
    subst he
    exact ⟨cs, rfl, h, rfl⟩
  | (i, x) :: parts, es, out, cs, h, he => by
    simp only [fillElems] at he
    cases hc : cellsOf (E x) with
    | none => rw [hc] at he; simp only [fillElem] at he; cases parts <;> simp [fillElems] at he
    | some as =>
      rw [hc] at he
      cases hp : fillElem cl sz es i (some as) with
      | none => rw [hp] at he; cases parts <;> simp [fillElems] at he
      | some es' =>
        rw [hp] at he
        simp only [fillElem] at hp
        obtain ⟨h1, h2⟩ := ifo_some hp
        cases h2
        obtain ⟨h3, h4⟩ := andB_true h1
        obtain ⟨h5, h6⟩ := andB_true h4
        have hi := lenLe_le h3
        have hn := lenEq_eq h5
        have hcx : CellsRd w S ρ (if cl then 0 else H.length) (nfs as) (ev' x).cells := by
          cases cl with
          | true => exact (((hev x).cells hc).closed h6).nfs
          | false => exact ((hev x).cells hc).nfs
        have hrow := hcx.rows (sz := sz) (by rw [nfs_length]; exact hn)
        have e1 : (ev' x).cells.size = sz := by rw [hcx.1, nfs_length, hn]
        have hlen := h.len
        have hcs : cs.size = es.length * sz := by simpa using hlen
        have hfit : i * sz + sz ≤ cs.size := by
          rw [hcs]
          have := Nat.mul_le_mul_right sz (show i + 1 ≤ es.length by omega)
          rw [Nat.succ_mul] at this
          exact this
        have hset := h.set (show i < es.length by omega) hrow
        have e2 := foldl_set_toList (ev' x).cells.toList 0 (i * sz) cs (by simp [e1]; omega)
        simp only [Nat.add_zero, Array.length_toList, e1] at e2
        rw [show (i + 1) * sz = i * sz + sz by rw [Nat.succ_mul], ← e2] at hset
        obtain ⟨cs', k1, k2, k3⟩ := fill_rows cl hev parts _ out _ hset he
        refine ⟨cs', ?_, k2, by simpa using k3⟩
        have e3 : ((ev' x).cells.zipIdx.foldl (fun cs (c, j) => cs.setIfInBounds (i * sz + j) c) cs) = ((ev' x).cells.toList.zipIdx 0).foldl (fun cs (c, j) => cs.setIfInBounds (i * sz + j) c) cs := by
          rw [← Array.foldl_toList, Array.toList_zipIdx]
        simp only [List.map_cons, Instr.fill]
        rw [if_neg (by simp only [Bool.or_eq_true, bne_iff_ne, ne_eq, decide_eq_true_eq]; exact fun h => h.elim (fun h => h e1) (fun h => by omega)), e3]
        exact k1

theorem lit_run {t e : TypeId} {i : TI} {inf' : TypeInfo} {d' : TypeDesc} {z' : Value} (hut : P.underlying t = some (.slice e)) (hf' : TF P e i inf' d' z') (w : World) {n : Nat} (hn : n ≤ 1000) (hs : i.size ≤ 1000) {ps : Array (Nat × Value)} {cs' : Array Value}
    (k1 : Instr.fill (fun k => some (k * i.size, i.size)) (madeCells z'.cells (n * i.size)) ps.toList = some cs') :
    (Instr.buildSlice t n ps).run P w = .ok (.slice (some ⟨w.heap.size, 0, none⟩) n n) (w.alloc (.cells cs' e)) := by
  have hbig : ¬ n * i.size > 16777216 := by
    have := Nat.mul_le_mul hn hs
    omega
  have hfill : Instr.fill (fun k => some (k * i.size, i.size)) ((Array.range (n * i.size)).map (z'.cells[· % z'.cells.size]!)) ps.toList = some cs' := by
    rw [← k1]
    simp [madeCells]
  unfold Instr.buildSlice
  rw [Sem.run_bind, run_underlying hut]
  simp only [Result.andThen_ok, Sem.run_bind, hf'.run_size]
  rw [Sem.run_ite, if_neg hbig]
  by_cases h0 : n * i.size = 0
  · have hn0 : n = 0 := by
      rcases Nat.mul_eq_zero.1 h0 with h0 | h0
      · exact h0
      · have := hf'.pos; omega
    subst hn0
    simp only [Nat.zero_mul, Array.range_zero', Array.map_empty, Array.toList_map] at hfill
    simp [Array.range_zero', hfill, newRow]
  · simp only [Sem.run_pure, Result.andThen_ok, h0, if_false, Sem.run_bind, hf'.run_zero, hfill, newRow, run_newObj, World.alloc_eq]

theorem lit_step {te : TE} (hte : TEok P te) (hm : RH w S ρ H) {p : Nat} (hp : Fresh H p) (t : TypeId) (n : Nat) {E : Operand → AV} {ev' : Operand → Value} (hev : ∀ x, Rd w S ρ H.length (E x) (ev' x)) (parts : Array (Nat × Operand)) {out : Out} (he : evLitT p E n parts.toList (elemI te (te t)) = some out) :
    Step P w S ρ H (Instr.buildSlice t n (parts.map fun (i, x) => (i, ev' x))) out.v (putH H out.w) := by
  cases hi : elemI te (te t) with
  | none => rw [hi] at he; cases he
  | some i =>
    rw [hi] at he
    obtain ⟨j, e, h1, h2, h3⟩ := elemI_some hi
    obtain ⟨inf, d, z, hf⟩ := hte.get h1
    obtain ⟨inf', d', z', hf'⟩ := hte.get h3
    have := hf.kslice h2; subst this
    simp only [evLitT] at he
    cases hl : evLit n i.size (fillElems true E i.size parts.toList (some (repl n (nfs i.zero)))) with
    | some out' =>
      rw [hl] at he
      simp only [orLit, Option.some.injEq] at he
      subst he
      cases hfe : fillElems true E i.size parts.toList (some (repl n (nfs i.zero))) with
      | none => rw [hfe] at hl; cases hl
      | some es =>
        rw [hfe] at hl
        simp only [evLit] at hl
        obtain ⟨h4, h5⟩ := ifo_some hl
        obtain ⟨h6, h7⟩ := andB_true h4
        have := ret_some h5; subst this
        rw [repl_eq] at hfe
        obtain ⟨cs', k1, k2, k3⟩ := fill_rows true hev parts.toList _ es _ (hf'.zero_rows w S ρ _ n) hfe
        simp only [List.length_replicate] at k3
        have hrun := lit_run hf.und hf' w (leb_le h6) (leb_le h7) (ps := parts.map fun (i, x) => (i, ev' x)) (cs' := cs') (by rw [← k1]; simp)
        have hn := leb_le h6
        refine Step.row hm (w.alloc (.cells cs' e)) true (cap := n) (by rw [k3]; exact hrun) rfl rfl rfl (by simp) (fun k hk => heap_alloc_old w _ hk) (heap_alloc_new w _) (fun k v hv => by rw [Array.getElem?_toList] at hv; exact hv) k2 (by omega) (by simp only [maxLen]; omega) (fun _ => k3.symm)
    | none =>
      rw [hl] at he
      simp only [orLit] at he
      cases hfe : fillElems false E i.size parts.toList (some (repl n (nfs i.zero))) with
      | none => rw [hfe] at he; cases he
      | some es =>
        rw [hfe] at he
        simp only [litOwn] at he
        obtain ⟨h4, h5⟩ := ifo_some he
        obtain ⟨h0, h4⟩ := andB_true h4
        obtain ⟨h6, h7⟩ := andB_true h4
        cases h5
        rw [repl_eq] at hfe
        obtain ⟨cs', k1, k2, k3⟩ := fill_rows false hev parts.toList _ es _ (hf'.zero_rows w S ρ _ n) hfe
        simp only [List.length_replicate] at k3
        have hn0 := leb_le h0
        have hn := leb_le h6
        have hrun := lit_run hf.und hf' w (leb_le h6) (leb_le h7) (ps := parts.map fun (i, x) => (i, ev' x)) (cs' := cs') (by rw [← k1]; simp)
        have key := hm.fresh hp (w.alloc (.cells cs' e)) ⟨w.heap.size, n, 1, i.size⟩ (.arr false 1 i.size none es) rfl rfl rfl rfl (by simp) (fun k hk => heap_alloc_old w (.cells cs' e) hk) (fun _ => Nat.le_refl _)
          (fun hS hN hl => EntRd.of_rows (by rw [upd_same]) Nat.one_pos (by rw [upd_same]) hf'.pos (by rw [upd_same]; exact Nat.le_of_eq k3) (by rw [upd_same]; simp only [maxLen]; omega) (by simp) (fun e he => k2.row e he) (by
            intro _
            rw [upd_same]
            refine ⟨cs', _, heap_alloc_new w _, ?_, ?_, ?_⟩
            · have := k2.len
              simpa [k3] using this
            · intro v hv
              exact k2.one v (by simpa using hv)
            · have e1 : cs'.toList.take (es.length * i.size) = cs'.toList := by rw [← k2.len]; exact List.take_length
              rw [e1]
              exact k2.mono hS hl hN))
        refine ⟨_, _, S, _, hrun, ?_, key.1, key.2⟩
        refine .own _ _ _ _ _ _ ?_ ?_ (Nat.le_refl _) (fun _ => rfl) ?_
        · show p < (setH H p _).length
          rw [setH_length H p _ hp.1]; omega
        · rw [upd_same]; exact Nat.le_refl _
        · intro _; rw [upd_same]; exact ⟨rfl, fun _ => rfl⟩

end
end Go.Rf
