/-
  THE SYMBOLIC EXECUTOR, part 6: how each kind of operation takes the memory on.
-/
import Derived.Test.YtdojencjbmahpaaGreatDoorRf5
set_option linter.unusedVariables false
set_option linter.unusedSimpArgs false
namespace Go.Rf

def upd (ρ : Reg) (p : Nat) (l : Loc) : Reg := fun q => if q = p then l else ρ q
theorem upd_same (ρ : Reg) (p : Nat) (l : Loc) : upd ρ p l p = l := by simp [upd]
theorem upd_other (ρ : Reg) (p q : Nat) (l : Loc) (h : q ≠ p) : upd ρ p l q = ρ q := by simp [upd, h]

/-- A place that is still free. -/
def Fresh (H : List Ent) (p : Nat) : Prop := p ≤ H.length ∧ (p < H.length → H[p]? = some .none)
theorem Fresh.end (H : List Ent) : Fresh H H.length := ⟨Nat.le_refl _, fun h => absurd h (Nat.lt_irrefl _)⟩
theorem Fresh.dead {H : List Ent} {p : Nat} (h : Fresh H p) {e : Ent} (he : H[p]? = some e) {ρ : Reg} (hl : live ρ p e) : False := by
  have := h.2 (List.getElem?_eq_some_iff.1 he).1
  rw [he] at this
  cases this
  exact hl
theorem Fresh.ver {w : World} {S : Nat → Prop} {ρ : Reg} {H : List Ent} {p : Nat} (h : Fresh H p) (hr : RH w S ρ H) (hl : p < H.length) : (ρ p).ver = 0 := hr.ent p .none (h.2 hl)

theorem newer_upd {ρ : Reg} {p n : Nat} {l : Loc} (h : p < n → (ρ p).ver < l.ver) : Newer ρ (upd ρ p l) n := fun q hq => by
  by_cases hqp : q = p
  · subst hqp; rw [upd_same]; exact .inr (h hq)
  · rw [upd_other _ _ _ _ hqp]; exact .inl rfl

/-- How an instruction goes. -/
def Step (P : Program) (w : World) (S : Nat → Prop) (ρ : Reg) (H : List Ent) (m : Sem Value) (v : AV) (H' : List Ent) : Prop :=
  ∃ x w' S' ρ', m.run P w = .ok x w' ∧ Rd w' S' ρ' H'.length v x ∧ RH w' S' ρ' H' ∧ Goes w S ρ H w' S' ρ' H' H.length

section
variable {P : Program} {w : World} {S : Nat → Prop} {ρ : Reg} {H : List Ent}

theorem Step.pure (hm : RH w S ρ H) {m : Sem Value} {v : AV} {x : Value} (hr : m.run P w = .ok x w) (hv : Rd w S ρ H.length v x) : Step P w S ρ H m v H :=
  ⟨x, w, S, ρ, hr, hv, hm, Goes.refl w S ρ H (Nat.le_refl _)⟩

/-- A new block under a place. -/
theorem RH.fresh (h : RH w S ρ H) {p : Nat} (hp : Fresh H p) (w' : World) (l : Loc) (e' : Ent) (hver : l.ver = 1)
    (hos : w'.os = w.os) (htape : w'.tape = w.tape) (hout : w'.output = w.output) (hsize : w.heap.size ≤ w'.heap.size) (hkeep : ∀ k, k < w.heap.size → w'.heap[k]? = w.heap[k]?)
    (hblk : live (upd ρ p l) p e' → w.heap.size ≤ l.blk)
    (he : Later S S w w' → Newer ρ (upd ρ p l) H.length → H.length ≤ (setH H p e').length → EntRd w' S (upd ρ p l) (setH H p e').length p e') :
    RH w' S (upd ρ p l) (setH H p e') ∧ Goes w S ρ H w' S (upd ρ p l) (setH H p e') H.length := by
  have hS : Later S S w w' := fun k hk => ⟨hk, hkeep k (h.stab k hk).1⟩
  have hN : Newer ρ (upd ρ p l) H.length := newer_upd fun hlt => by rw [hp.ver h hlt, hver]; exact Nat.one_pos
  have hlen : H.length ≤ (setH H p e').length := by rw [setH_length H p e' hp.1]; omega
  refine h.change hp.1 (fun q hq => upd_other _ _ _ _ hq) (fun hlt => hN p hlt) hos htape hout hsize (fun k hk _ => hkeep k hk) ?_ (fun _ h => h) (fun _ h => .inl h) (he hS hN hlen)
  intro hl
  exact .inr (by rw [upd_same]; exact hblk hl)

theorem Step.var (hm : RH w S ρ H) {p : Nat} (hp : Fresh H p) {m : Sem Value} {cells : List AV} {cs : Array Value} {ty : TypeId}
    (hr : m.run P w = .ok (.pointer (some ⟨w.heap.size, 0, none⟩)) (w.alloc (.cells cs ty))) (hc : CellsRd w S ρ H.length cells cs) : Step P w S ρ H m (.ptr p 0) (setH H p (.var cells)) := by
  have key := hm.fresh hp (w.alloc (.cells cs ty)) ⟨w.heap.size, 0, 1, 0⟩ (.var cells) rfl rfl rfl rfl (by simp) (fun k hk => heap_alloc_old w (.cells cs ty) hk) (fun _ => Nat.le_refl _)
    (fun hS hN hl => ⟨by rw [upd_same], cs, ty, by rw [upd_same]; exact heap_alloc_new w _, hc.mono hS hl hN⟩)
  refine ⟨_, _, S, upd ρ p ⟨w.heap.size, 0, 1, 0⟩, hr, ?_, key.1, key.2⟩
  refine .ptr _ _ _ _ ?_ ?_ ?_
  · rw [setH_length H p _ hp.1]; omega
  · rw [upd_same]; exact Nat.le_refl _
  · intro _; rw [upd_same]

/-- A new row that nobody will write any more. -/
theorem RH.stable (hm : RH w S ρ H) (w' : World) (hos : w'.os = w.os) (htape : w'.tape = w.tape) (hout : w'.output = w.output) (hsize : w'.heap.size = w.heap.size + 1) (hkeep : ∀ k, k < w.heap.size → w'.heap[k]? = w.heap[k]?) :
    RH w' (fun k => S k ∨ k = w.heap.size) ρ H ∧ Goes w S ρ H w' (fun k => S k ∨ k = w.heap.size) ρ H H.length ∧ Later S (fun k => S k ∨ k = w.heap.size) w w' := by
  have key := hm.same (S' := fun k => S k ∨ k = w.heap.size) hos htape hout (by omega) hkeep (fun _ h => .inl h) (fun k h => h.elim .inl (fun h => .inr ⟨by omega, by omega⟩))
  exact ⟨key.1, key.2, fun k hk => ⟨.inl hk, hkeep k (hm.stab k hk).1⟩⟩

theorem Step.row (hm : RH w S ρ H) {m : Sem Value} {sz cap : Nat} {es : List (List AV)} {vs : List Value} {cs : Array Value} {ty : TypeId} {f : Nat × Nat} (w' : World) (fr : Bool)
    (hr : m.run P w = .ok (.slice (some ⟨w.heap.size, 0, none⟩) es.length cap) w')
    (hos : w'.os = w.os) (htape : w'.tape = w.tape) (hout : w'.output = w.output) (hsize : w'.heap.size = w.heap.size + 1) (hkeep : ∀ k, k < w.heap.size → w'.heap[k]? = w.heap[k]?)
    (hnew : w'.heap[w.heap.size]? = some (.cells cs ty f)) (hcs : ∀ (j : Nat) (v : Value), vs[j]? = some v → cs[j]? = some v)
    (hc : RowsRd w S ρ 0 sz es vs) (hle : es.length ≤ cap) (hmx : cap ≤ maxLen) (hf : fr = true → cap = es.length) : Step P w S ρ H m (.sl sz fr es) H := by
  obtain ⟨h1, h2, h3⟩ := hm.stable w' hos htape hout hsize hkeep
  refine ⟨_, w', _, ρ, hr, ?_, h1, h2⟩
  refine Rd.sl_of_rows fr (hc.mono h3 (Nat.le_refl _) (Newer.refl _ _)) _ cap hle hmx hf ?_
  intro _
  refine ⟨_, rfl, .inr rfl, fun j v hv => ?_⟩
  rw [Addr.add_lit, cell_of_row w' w.heap.size _ cs ty f hnew]
  simpa using hcs j v hv

/-- A place's array is filled anew, in its own block. -/
theorem RH.fill (h : RH w S ρ H) {p : Nat} {e e' : Ent} (he : H[p]? = some e) (l : Loc) (w' : World) (hl : l = ρ p ∨ (ρ p).ver < l.ver) (hb : l.blk = (ρ p).blk)
    (hos : w'.os = w.os) (htape : w'.tape = w.tape) (hout : w'.output = w.output) (hsize : w.heap.size ≤ w'.heap.size) (hkeep : ∀ k, k < w.heap.size → (live ρ p e → k ≠ (ρ p).blk) → w'.heap[k]? = w.heap[k]?)
    (hlive : live (upd ρ p l) p e' → live ρ p e)
    (hE : Later S S w w' → Newer ρ (upd ρ p l) H.length → EntRd w' S (upd ρ p l) H.length p e') :
    RH w' S (upd ρ p l) (setH H p e') ∧ Goes w S ρ H w' S (upd ρ p l) (setH H p e') H.length := by
  have hp : p < H.length := (List.getElem?_eq_some_iff.1 he).1
  have hlen : (setH H p e').length = H.length := by rw [setH_length H p e' (Nat.le_of_lt hp)]; omega
  have hS : Later S S w w' := fun k hk => ⟨hk, hkeep k (h.stab k hk).1 (fun hv hk2 => (h.stab k hk).2 ⟨p, e, he, hv, hk2.symm⟩)⟩
  have hN : Newer ρ (upd ρ p l) H.length := fun q hq => by
    by_cases hqp : q = p
    · subst hqp; rw [upd_same]; exact hl
    · rw [upd_other _ _ _ _ hqp]; exact .inl rfl
  refine h.change (Nat.le_of_lt hp) (fun q hq => upd_other _ _ _ _ hq) (fun hlt => hN p hlt) hos htape hout hsize ?_ ?_ (fun _ h => h) (fun _ h => .inl h) (by rw [hlen]; exact hE hS hN)
  · intro k hk hne
    exact hkeep k hk (fun hv => hne e he hv)
  · intro hl'
    exact .inl ⟨by rw [upd_same]; exact hb, e, he, hlive hl'⟩

/-- A place's array moves to a new block. -/
theorem RH.move (h : RH w S ρ H) {p : Nat} {e e' : Ent} (he : H[p]? = some e) (l : Loc) (w' : World) (hl : (ρ p).ver < l.ver) (hb : live (upd ρ p l) p e' → w.heap.size ≤ l.blk)
    (hos : w'.os = w.os) (htape : w'.tape = w.tape) (hout : w'.output = w.output) (hsize : w.heap.size ≤ w'.heap.size) (hkeep : ∀ k, k < w.heap.size → w'.heap[k]? = w.heap[k]?)
    (hE : Later S S w w' → Newer ρ (upd ρ p l) H.length → EntRd w' S (upd ρ p l) H.length p e') :
    RH w' S (upd ρ p l) (setH H p e') ∧ Goes w S ρ H w' S (upd ρ p l) (setH H p e') H.length := by
  have hp : p < H.length := (List.getElem?_eq_some_iff.1 he).1
  have hlen : (setH H p e').length = H.length := by rw [setH_length H p e' (Nat.le_of_lt hp)]; omega
  have hS : Later S S w w' := fun k hk => ⟨hk, hkeep k (h.stab k hk).1⟩
  have hN : Newer ρ (upd ρ p l) H.length := newer_upd fun _ => hl
  refine h.change (Nat.le_of_lt hp) (fun q hq => upd_other _ _ _ _ hq) (fun hlt => hN p hlt) hos htape hout hsize (fun k hk _ => hkeep k hk) ?_ (fun _ h => h) (fun _ h => .inl h) (by rw [hlen]; exact hE hS hN)
  intro hl'
  exact .inr (by rw [upd_same]; exact hb hl')

theorem getD_some {H : List Ent} {q : Nat} {e : Ent} (h : H.getD q .none = e) (hn : e ≠ .none) : H[q]? = some e := by
  rw [List.getD_eq_getElem?_getD] at h
  cases hq : H[q]? with
  | none => rw [hq] at h; exact absurd h.symm hn
  | some f => rw [hq] at h; simp at h; rw [h]

/-- What leaves the memory alone. -/
def Plain (P : Program) (w : World) (S : Nat → Prop) (ρ : Reg) (H : List Ent) (m : Sem Value) (out : Out) : Prop :=
  out.w = [] ∧ ∃ x, m.run P w = .ok x w ∧ Rd w S ρ H.length out.v x
theorem Plain.step (hm : RH w S ρ H) {m : Sem Value} {out : Out} (h : Plain P w S ρ H m out) : Step P w S ρ H m out.v (putH H out.w) := by
  obtain ⟨h1, x, h2, h3⟩ := h
  rw [h1]
  exact Step.pure hm h2 h3

/-! ### Loads -/
theorem cellsFrom_get {es : List (List AV)} {k : Nat} {e : List AV} (he : es[k]? = some e) : ∀ n j, j + n ≤ e.length → (cellsFrom es k j n).length = n ∧ ∀ (r : Nat) (a : AV), (cellsFrom es k j n)[r]? = some a → e[j + r]? = some a
  | 0, j, _ => ⟨rfl, by simp [cellsFrom]⟩
  | n + 1, j, hj => by
    obtain ⟨i1, i2⟩ := cellsFrom_get he n (j + 1) (by omega)
    refine ⟨by simp [cellsFrom, i1], fun r a hr => ?_⟩
    cases r with
    | zero =>
      simp only [cellsFrom, List.getElem?_cons_zero, Option.some.injEq, cellAt, List.getD_eq_getElem?_getD, he, Option.getD_some] at hr
      rw [List.getElem?_eq_getElem (show j < e.length by omega)] at hr
      simp at hr
      simp [← hr, show j < e.length by omega]
    | succ r =>
      have := i2 r a (by simpa [cellsFrom] using hr)
      rw [← this]; congr 1; omega

theorem mkVal_rd {agg : Bool} {cells : List AV} {vs : List Value} (hl : vs.length = cells.length) (h1 : ∀ v ∈ vs, v.oneCell' = true) {n : Nat}
    (h : ∀ (i : Nat) (a : AV) (v : Value), cells[i]? = some a → vs[i]? = some v → Rd w S ρ n a v) (hs : agg = false → cells.length = 1) :
    Rd w S ρ n (mkVal agg cells) (if agg then .agg vs.toArray else vs.getD 0 undef) := by
  cases agg with
  | true => exact .agg _ cells vs hl.symm h1 h
  | false =>
    have hc := hs rfl
    match cells, vs, hc, hl with
    | [a], [v], _, _ => simpa [mkVal] using h 0 a v rfl rfl

theorem run_loadVar_cells {t : TypeId} {i : TI} {inf : TypeInfo} {d : TypeDesc} {z : Value} (hf : TF P t i inf d z) (a : Addr) (vs : List Value) (hl : vs.length = i.size)
    (hc : ∀ (j : Nat) (v : Value), vs[j]? = some v → w.cell? (a.add j) = some v) : (loadVar t a).run P w = .ok (if i.kind.isAgg then .agg vs.toArray else vs.getD 0 undef) w := by
  unfold loadVar
  rw [Sem.run_bind, hf.run_isAgg, hf.kagg]
  cases hd : isAggD d with
  | true =>
    have := run_loadCells_list (P := P) w a vs hc
    rw [hl] at this
    simp [hf.run_size, this]
  | false =>
    have h1 := hf.one hd
    have h0 : vs[0]? = some (vs.getD 0 undef) := by
      rw [List.getD_eq_getElem?_getD, List.getElem?_eq_getElem (by omega)]; rfl
    have := hc 0 _ h0
    rw [Addr.add_zero'] at this
    simp [this]

theorem load_var (hm : RH w S ρ H) {t : TypeId} {i : TI} {inf : TypeInfo} {d : TypeDesc} {z : Value} (hf : TF P t i inf d z) {a : AV} {v : Value} (hv : Rd w S ρ H.length a v) {out : Out}
    (he : evLoad H i.kind.isAgg i.size a = some out) (hc : condK out.c True) : Plain P w S ρ H (Instr.loadAt t v) out := by
  unfold evLoad at he
  cases hv with
  | ptr _ p off A hp hver h =>
    simp only [loadP] at he
    split at he
    · rename_i cells hq
      obtain ⟨h1, h2⟩ := ifo_some he
      have hle := lenLe_le h1
      cases h2
      have hent := hm.ent p _ (getD_some hq (by simp))
      obtain ⟨k0, cs, ty, k1, k2⟩ := hent
      have hA := h k0
      have hsz : ((cs.toList.drop off).take i.size).length = i.size := by simp [k2.1]; omega
      have hrun := run_loadVar_cells (P := P) (w := w) hf A ((cs.toList.drop off).take i.size) hsz (by
        intro j u hu
        rw [List.getElem?_take] at hu
        split at hu
        · rw [List.getElem?_drop] at hu
          subst hA
          rw [Addr.add_lit, cell_of_row w _ _ cs ty _ k1]
          simpa using hu
        · cases hu)
      refine ⟨rfl, _, (show (Instr.loadAt t _).run P w = _ from hrun), ?_⟩
      refine mkVal_rd ?_ ?_ ?_ ?_
      · rw [hsz]; simp; omega
      · intro u hu
        exact k2.2.1 u (by simpa using List.mem_of_mem_drop (List.mem_of_mem_take hu))
      · intro j x u hx hu
        rw [List.getElem?_take] at hx hu
        split at hx
        · rename_i hj
          rw [if_pos hj] at hu
          rw [List.getElem?_drop] at hx hu
          exact k2.2.2 _ x u hx (by simpa using hu)
        · cases hx
      · intro hagg
        have := hf.one (by rw [← hf.kagg]; exact hagg)
        simp; omega
    · cases he
  | eptr _ p ver k j A hp hver h =>
    simp only [loadE] at he
    split at he
    · rename_i cl v sz cap es hq
      obtain ⟨h1, h2⟩ := ifo_some he
      have hle := leb_le h1
      cases h2
      simp only [condK] at hc
      obtain ⟨⟨rfl, hlt⟩, _⟩ := hc
      have hent := hm.ent p _ (getD_some hq (by simp))
      have hver' := hent.1
      have hcap : 0 < (ρ p).cap := by have := hent.2.2.2.2.1; omega
      have hszp := hent.2.2.1
      have hA := h hver'.symm (by have := hent.2.2.2.2.1; omega)
      obtain ⟨cs, ty, k1, k2, k3, k4⟩ := hent.rows hcap
      have he' : es[k]? = some es[k] := List.getElem?_eq_getElem hlt
      have hrow : es[k].length = sz := k4.row _ (List.getElem_mem hlt)
      have hbig := k4.len
      rw [List.length_take] at hbig
      have hidx : k * sz + sz ≤ es.length * sz := by
        have := Nat.mul_le_mul_right sz hlt
        rw [Nat.succ_mul] at this
        omega
      have hsz : ((cs.toList.drop (k * sz + j)).take i.size).length = i.size := by
        simp at hbig ⊢
        omega
      have hrun := run_loadVar_cells (P := P) (w := w) hf A ((cs.toList.drop (k * sz + j)).take i.size) hsz (by
        intro r u hu
        rw [List.getElem?_take] at hu
        split at hu
        · rw [List.getElem?_drop] at hu
          subst hA
          rw [hszp, Addr.add_lit, cell_of_row w _ _ cs ty _ k1]
          simpa using hu
        · cases hu)
      refine ⟨rfl, _, (show (Instr.loadAt t _).run P w = _ from hrun), ?_⟩
      obtain ⟨c1, c2⟩ := cellsFrom_get he' i.size j (by omega)
      refine mkVal_rd ?_ ?_ ?_ ?_
      · rw [hsz, c1]
      · intro u hu
        exact k3 u (by simpa using List.mem_of_mem_drop (List.mem_of_mem_take hu))
      · intro r x u hx hu
        rw [List.getElem?_take] at hu
        split at hu
        · rw [List.getElem?_drop] at hu
          have hx' := c2 r x hx
          have := k4.rd k (j + r) _ x u he' hx' (by
            rw [List.getElem?_take, if_pos (by omega)]
            rw [← hu]; congr 1; omega)
          cases cl with
          | true => exact this.mono (Later.refl _ _) (Nat.zero_le _) (Newer.refl _ _)
          | false => exact this
        · cases hu
      · intro hagg
        have := hf.one (by rw [← hf.kagg]; exact hagg)
        rw [c1]; omega
    · cases he
  | rptr _ sz es k j a e cell he' hl hcell h =>
    obtain ⟨h1, h2⟩ := ifo_some he
    have hle := leb_le h1
    cases h2
    obtain ⟨c1, c2⟩ := cellsFrom_get he' i.size j (by omega)
    have key : ∀ r u, ((List.range i.size).map fun r => cell (j + r))[r]? = some u → r < i.size ∧ u = cell (j + r) := by
      intro r u hu
      rw [List.getElem?_map] at hu
      rcases Nat.lt_or_ge r i.size with hr | hr
      · rw [List.getElem?_range hr] at hu; simp at hu; exact ⟨hr, hu.symm⟩
      · rw [List.getElem?_eq_none (by simpa using hr)] at hu; simp at hu
    have hrun := run_loadVar_cells (P := P) (w := w) hf a ((List.range i.size).map fun r => cell (j + r)) (by simp) (by
      intro r u hu
      obtain ⟨hr, rfl⟩ := key r u hu
      have := (hcell (j + r) (by omega) (by omega)).2.1
      rw [← this]; congr 2; omega)
    refine ⟨rfl, _, (show (Instr.loadAt t _).run P w = _ from hrun), ?_⟩
    refine mkVal_rd ?_ ?_ ?_ ?_
    · simp [c1]
    · intro u hu
      obtain ⟨r, hr⟩ := List.getElem?_of_mem hu
      obtain ⟨hr, rfl⟩ := key r u hr
      exact (hcell (j + r) (by omega) (by omega)).2.2
    · intro r x u hx hu
      obtain ⟨hr, rfl⟩ := key r u hu
      exact (h (j + r) x (c2 r x hx)).mono (Later.refl _ _) (Nat.zero_le _) (Newer.refl _ _)
    · intro hagg
      have := hf.one (by rw [← hf.kagg]; exact hagg)
      rw [c1]; omega
  | _ => cases he

end
end Go.Rf
