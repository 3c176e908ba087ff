/-
  THE SYMBOLIC EXECUTOR, part 12: append, copy, clear upon the abstract memory.
-/
import Derived.Test.YtdojencjbmahpaaGreatDoorRfB
set_option linter.unusedVariables false
set_option linter.unusedSimpArgs false
namespace Go.Rf

theorem seg_take {α : Type} (cs vs : List α) (a L : Nat) (hL : L ≤ cs.length) (ha : a ≤ L) (hfit : a + vs.length ≤ cs.length) :
    (cs.take a ++ vs ++ cs.drop (a + vs.length)).take (max L (a + vs.length)) = (cs.take L).take a ++ vs ++ (cs.take L).drop (a + vs.length) := by
  apply List.ext_getElem?
  intro j
  rw [List.getElem?_take, seg_get _ _ _ _ hfit]
  simp only [List.getElem?_append, List.length_append, List.length_take, List.getElem?_take, List.getElem?_drop]
  rw [show min a (min L cs.length) = a by omega]
  by_cases h1 : j < a
  · simp [h1, show j < max L (a + vs.length) by omega, show j < a + vs.length by omega, show j < L by omega]
  · by_cases h2 : j < a + vs.length
    · simp [h1, h2, show j < max L (a + vs.length) by omega]
    · by_cases h3 : j < L
      · simp only [h1, h2, h3, if_false, if_true, show j < max L (a + vs.length) by omega, show a + vs.length + (j - (a + vs.length)) = j by omega]
      · simp only [h1, h2, h3, if_false, show ¬ j < max L (a + vs.length) by omega, show a + vs.length + (j - (a + vs.length)) = j by omega]

section
variable {P : Program} {w : World} {S : Nat → Prop} {ρ : Reg} {H : List Ent}

theorem cl_le {cl cl' : Bool} {n : Nat} : (if Rf.andB cl cl' then 0 else n) = 0 ∨ ((if Rf.andB cl cl' then 0 else n) = n) := by cases cl <;> cases cl' <;> simp [Rf.andB]
theorem RowsRd.clL {w : World} {S : Nat → Prop} {ρ : Reg} {cl : Bool} (cl' : Bool) {n sz : Nat} {es : List (List AV)} {vs : List Value} (h : RowsRd w S ρ (if cl then 0 else n) sz es vs) : RowsRd w S ρ (if Rf.andB cl cl' then 0 else n) sz es vs := by
  cases cl with
  | true => cases cl' with
    | true => exact h
    | false => exact RowsRd.up h
  | false => exact h
theorem RowsRd.clR {w : World} {S : Nat → Prop} {ρ : Reg} (cl : Bool) {cl' : Bool} {n sz : Nat} {es : List (List AV)} {vs : List Value} (h : RowsRd w S ρ (if cl' then 0 else n) sz es vs) : RowsRd w S ρ (if Rf.andB cl cl' then 0 else n) sz es vs := by
  cases cl with
  | true => exact h
  | false => cases cl' with
    | true => exact RowsRd.up h
    | false => exact h
theorem RowsRd.cl_mono {w w' : World} {S S' : Nat → Prop} {ρ ρ' : Reg} {cl : Bool} {n m sz : Nat} {es : List (List AV)} {vs : List Value} (h : RowsRd w S ρ (if cl then 0 else n) sz es vs) (hS : Later S S' w w') (hm : n ≤ m) (hn : Newer ρ ρ' n) : RowsRd w' S' ρ' (if cl then 0 else m) sz es vs := by
  cases cl with
  | true => exact h.mono hS (Nat.le_refl _) (hn.mono (Nat.zero_le _))
  | false => exact h.mono hS hm hn

/-- Rows written into an array of the call's own. -/
theorem write_rows (hm : RH w S ρ H) {q : Nat} {cl cl' : Bool} {v sz : Nat} {cap : Option Nat} {es ys : List (List AV)} (hq : H[q]? = some (.arr cl' v sz cap es)) {vs : List Value} (hr : RowsRd w S ρ (if cl then 0 else H.length) sz ys vs)
    {o : Nat} (ho : o ≤ es.length) (hfit : o + ys.length ≤ (ρ q).cap) {nv : Nat} (hnv : nv = v ∨ v < nv) {cap' : Option Nat} (hcap' : ∀ c, cap' = some c → c = (ρ q).cap) (A : Addr) (hA : 0 < (ρ q).cap → A = ⟨(ρ q).blk, o * sz, none⟩) :
    ∃ w', (storeCells A vs).run P w = .ok () w' ∧ ((ρ q).cap = 0 → w' = w) ∧
      RH w' S (upd ρ q { ρ q with ver := nv }) (setH H q (.arr (Rf.andB cl cl') nv sz cap' (es.take o ++ ys ++ es.drop (o + ys.length)))) ∧
      Goes w S ρ H w' S (upd ρ q { ρ q with ver := nv }) (setH H q (.arr (Rf.andB cl cl') nv sz cap' (es.take o ++ ys ++ es.drop (o + ys.length)))) H.length := by
  have hent := hm.ent q _ hq
  obtain ⟨e1, e2, e3, e4, e5, e6, e7, e8, e9⟩ := id hent
  have hl : ({ ρ q with ver := nv } : Loc) = ρ q ∨ (ρ q).ver < ({ ρ q with ver := nv } : Loc).ver := by
    rcases hnv with h | h
    · left; rw [h, ← e1]
    · right; simpa [e1] using h
  have hv0 : 0 < nv := by omega
  have hlen : (es.take o ++ ys ++ es.drop (o + ys.length)).length = max es.length (o + ys.length) := by simp; omega
  have hrow : ∀ e ∈ es.take o ++ ys ++ es.drop (o + ys.length), e.length = sz := by
    intro e he
    simp only [List.mem_append] at he
    rcases he with (he | he) | he
    · exact e8 e (List.mem_of_mem_take he)
    · exact hr.row e he
    · exact e8 e (List.mem_of_mem_drop he)
  rcases Nat.eq_zero_or_pos (ρ q).cap with h0 | h0
  · have hys : ys = [] := List.eq_nil_of_length_eq_zero (by omega)
    subst hys
    have hvs : vs = [] := List.eq_nil_of_length_eq_zero (by simpa using hr.len)
    subst hvs
    have key := hm.fill hq { ρ q with ver := nv } w (e' := .arr (Rf.andB cl cl') nv sz cap' (es.take o ++ [] ++ es.drop (o + ([] : List (List AV)).length))) hl rfl rfl rfl rfl (Nat.le_refl _) (fun _ _ _ => rfl)
      (fun hlive => by simp only [live, upd_same] at hlive; omega) (fun hS hN => by
        refine EntRd.of_rows (by rw [upd_same]) hv0 (by rw [upd_same]; exact e3) e4 (by rw [upd_same, hlen]; simp only [List.length_nil]; omega) (by rw [upd_same]; exact e6) (by rw [upd_same]; exact hcap') hrow ?_
        intro hc
        rw [upd_same] at hc
        simp only at hc
        omega)
    exact ⟨w, rfl, fun _ => rfl, key.1, key.2⟩
  · have hA' := hA h0
    subst hA'
    obtain ⟨cs, ty, k1, k2, k3, k4⟩ := hent.rows h0
    have hvl := hr.len
    have hcl : cs.toList.length = (ρ q).cap * sz := k2
    have hfit2 : o * sz + vs.length ≤ cs.toList.length := by
      rw [hvl, hcl, ← Nat.add_mul]; exact Nat.mul_le_mul_right _ hfit
    have hst := run_storeCells_at P (ρ q).blk (o * sz) ty vs 0 cs w k1 (by simpa using hfit2) hr.one
    simp only [Nat.add_zero] at hst
    have key := hm.fill hq { ρ q with ver := nv } (w.setRow (ρ q).blk (cs.toList.take (o * sz) ++ vs ++ cs.toList.drop (o * sz + vs.length)).toArray) (e' := .arr (Rf.andB cl cl') nv sz cap' (es.take o ++ ys ++ es.drop (o + ys.length))) hl rfl rfl rfl rfl (by simp)
      (fun k hk hne => setRow_other w _ k _ (hne h0)) (fun _ => h0) (fun hS hN => by
        refine EntRd.of_rows (by rw [upd_same]) hv0 (by rw [upd_same]; exact e3) e4 (by rw [upd_same, hlen]; simp only; omega) (by rw [upd_same]; exact e6) (by rw [upd_same]; exact hcap') hrow ?_
        intro hc
        simp only [upd_same]
        refine ⟨_, ty, setRow_heap w _ cs _ ty _ k1, ?_, ?_, ?_⟩
        · rw [List.size_toArray, seg_length _ _ _ hfit2]; simpa using k2
        · intro y hy
          simp only [List.mem_toArray, List.mem_append] at hy
          rcases hy with (hy | hy) | hy
          · exact k3 y (by simpa using List.mem_of_mem_take hy)
          · exact hr.one y hy
          · exact k3 y (by simpa using List.mem_of_mem_drop hy)
        · have hrows := (((k4.clR cl).take o).append (hr.clL cl')).append ((k4.clR cl).drop (o + ys.length))
          have hLe : es.length * sz ≤ cs.toList.length := by rw [hcl]; exact Nat.mul_le_mul_right _ e5
          have := seg_take cs.toList vs (o * sz) (es.length * sz) hLe (Nat.mul_le_mul_right _ ho) hfit2
          rw [hlen, show max es.length (o + ys.length) * sz = max (es.length * sz) (o * sz + vs.length) by
            rw [hvl, ← Nat.add_mul]
            rcases Nat.le_total es.length (o + ys.length) with h | h
            · rw [Nat.max_eq_right h, Nat.max_eq_right (Nat.mul_le_mul_right _ h)]
            · rw [Nat.max_eq_left h, Nat.max_eq_left (Nat.mul_le_mul_right _ h)], this]
          rw [show (o + ys.length) * sz = o * sz + vs.length by rw [hvl, Nat.add_mul]] at hrows
          exact hrows.cl_mono hS (Nat.le_refl _) hN)
    exact ⟨_, hst, fun h => by omega, key.1, key.2⟩

/-- Rows laid into a new block: what the place then tells. -/
theorem ent_of_new {w' : World} {S' : Nat → Prop} {ρ' : Reg} {n p b cap ver sz : Nat} {cl : Bool} {es : List (List AV)} {vs rest : List Value} {ty : TypeId} (hl : ρ' p = ⟨b, cap, ver, sz⟩) (hv : 0 < ver) (hsz : 0 < sz)
    (hb : w'.heap[b]? = some (.cells (vs ++ rest).toArray ty (0, 0))) (hr : RowsRd w' S' ρ' (if cl then 0 else n) sz es vs) (hrest : rest.length = (cap - es.length) * sz) (hle : es.length ≤ cap) (hm : cap ≤ maxLen) (h1 : ∀ v ∈ rest, v.oneCell' = true) :
    EntRd w' S' ρ' n p (.arr cl ver sz none es) := by
  refine EntRd.of_rows (by rw [hl]) hv (by rw [hl]) hsz (by rw [hl]; exact hle) (by rw [hl]; exact hm) (by simp) hr.row ?_
  intro _
  rw [hl]
  refine ⟨_, ty, hb, ?_, ?_, ?_⟩
  · simp only [List.size_toArray, List.length_append, hr.len, hrest, ← Nat.add_mul]
    congr 1
    omega
  · intro v hv'
    simp only [List.mem_toArray, List.mem_append] at hv'
    exact hv'.elim (hr.one v) (h1 v)
  · rw [show (vs ++ rest).toArray.toList.take (es.length * sz) = vs by
      rw [List.toList_toArray, ← hr.len]; exact List.take_left]
    exact hr

/-- The new block of an append that grows. -/
def grownW (w : World) (olds news : List Value) (z : Array Value) (need old : Nat) (e : TypeId) : World :=
  w.drew.alloc (.cells (olds.toArray ++ news.toArray ++ Builtin.zeroCells z (grownCap w need old e - need)) e)
theorem grownW_new (w : World) (olds news : List Value) (z : Array Value) (need old : Nat) (e : TypeId) :
    (grownW w olds news z need old e).heap[w.heap.size]? = some (.cells ((olds ++ news) ++ (Builtin.zeroCells z (grownCap w need old e - need)).toList).toArray e (0, 0)) := by
  have := heap_alloc_new w.drew (.cells (olds.toArray ++ news.toArray ++ Builtin.zeroCells z (grownCap w need old e - need)) e)
  rw [show w.drew.heap.size = w.heap.size from rfl] at this
  rw [grownW, this]
  congr 2
  apply Array.ext'
  simp [List.append_assoc]
theorem grownW_old (w : World) (olds news : List Value) (z : Array Value) (need old : Nat) (e : TypeId) (k : Nat) (hk : k < w.heap.size) : (grownW w olds news z need old e).heap[k]? = w.heap[k]? := heap_alloc_old w.drew _ hk
theorem grownW_size (w : World) (olds news : List Value) (z : Array Value) (need old : Nat) (e : TypeId) : (grownW w olds news z need old e).heap.size = w.heap.size + 1 := by simp [grownW]

theorem room_le {n bytes : Nat} (h : room n bytes) (hb : 0 < bytes) : n ≤ maxLen := by
  unfold room at h
  have : n * 1 ≤ n * bytes := Nat.mul_le_mul_left _ hb
  simp only [maxLen]
  omega

/-- append's second argument, told. -/
theorem app_arg {te : TE} (hte : TEok P te) (hm : RH w S ρ H) {e u : TypeId} {i : TI} {inf : TypeInfo} {d : TypeDesc} {z : Value} (hf : TF P e i inf d z) {b : AV} {v : Value} (hv : Rd w S ρ H.length b v) {k : Cont} (hk : appArg H i (te u) b = some k)
    (hc : condK k.c True) (hfit : fits k.sz i.size k.es = true) : ∃ vs, RowsRd w S ρ (if k.cl then 0 else H.length) i.size k.es vs ∧ AppArg P w e inf.size inf.bytes z u v k.es.length vs := by
  cases hu : te u with
  | none => rw [hu] at hk; cases hk
  | some j =>
    rw [hu] at hk
    obtain ⟨infj, dj, zj, hfj⟩ := hte.get hu
    simp only [appArg] at hk
    have main : ∀ (hk : contents H b = some k) (hd : (∃ e2, P.underlying u = some (.slice e2)) ∨ P.underlying u = some .string), ∃ vs, RowsRd w S ρ (if k.cl then 0 else H.length) i.size k.es vs ∧ AppArg P w e inf.size inf.bytes z u v k.es.length vs := by
      intro hk hd
      obtain ⟨vs, h1⟩ := contents_src (P := P) hm hv hk hc hfit
      refine ⟨vs, h1.rows, .plain hd h1.len (fun w' hw => ?_)⟩
      have := h1.first w' hw k.es.length (Nat.le_refl _)
      rw [hf.size, this, ← h1.rows.len, List.take_length]
    cases hkk : j.kind <;> rw [hkk] at hk <;> simp only [appK] at hk <;> try (cases hk; done)
    · have hd := hfj.kint hkk; subst hd
      cases b <;> simp only [zerosC] at hk <;> try (cases hk; done)
      rename_i k' n
      cases k' <;> simp only at hk <;> try (cases hk; done)
      obtain ⟨h1, h2⟩ := ifo_some hk
      cases h2
      simp only [condK] at hc
      obtain ⟨⟨h0, hb⟩, _⟩ := hc
      cases hv
      have hn : (n.toNat : Int) = n := Int.toNat_of_nonneg h0
      refine ⟨_, zeros_rows hf _ n.toNat, .zeros _ hfj.und ?_ ?_ ?_⟩
      · simp only [List.length_replicate, hn]
      · simp only [List.length_replicate, hf.bytes]
        have : ((n.toNat * i.bytes : Nat) : Int) = n * (i.bytes : Int) := by push_cast; rw [hn]
        omega
      · simp
    · have hd := hfj.kstr hkk; subst hd
      exact main hk (.inr hfj.und)
    · rename_i e2
      have hd := hfj.kslice hkk; subst hd
      exact main hk (.inl ⟨e2, hfj.und⟩)

theorem andO_split {c : Option DP} {b : DP} (h : condK (some (andO c b)) True) : condK c True ∧ b.p := by
  cases c with
  | none => exact ⟨trivial, h.1⟩
  | some c => exact ⟨⟨h.1.1, trivial⟩, h.1.2⟩

/-- A grown array under a new place. -/
theorem grown_step (hm : RH w S ρ H) {p : Nat} (hp : Fresh H p) {e : TypeId} {i : TI} {inf : TypeInfo} {d : TypeDesc} {z : Value} (hf : TF P e i inf d z) {m : Sem Value} {cl : Bool} {es ys : List (List AV)} {olds news : List Value} {old : Nat}
    (ho : RowsRd w S ρ (if cl then 0 else H.length) i.size es olds) (hn : RowsRd w S ρ (if cl then 0 else H.length) i.size ys news) (hroom : room (es.length + ys.length) i.bytes)
    (hr : m.run P w = .ok (.slice (some ⟨w.heap.size, 0, none⟩) (es.length + ys.length) (grownCap w (es.length + ys.length) old e)) (grownW w olds news z.cells (es.length + ys.length) old e)) :
    Step P w S ρ H m (.own p 1 (es.length + ys.length)) (setH H p (.arr cl 1 i.size none (es ++ ys))) := by
  have hge := grownCap_ge w (es.length + ys.length) old e
  have hle := grownCap_le_maxLen w (es.length + ys.length) old e (room_le hroom hf.bpos)
  have hz := zeros_rows (w := w) (S := S) (ρ := ρ) hf 0 (grownCap w (es.length + ys.length) old e - (es.length + ys.length))
  have key := hm.fresh hp (grownW w olds news z.cells (es.length + ys.length) old e) ⟨w.heap.size, grownCap w (es.length + ys.length) old e, 1, i.size⟩ (.arr cl 1 i.size none (es ++ ys)) rfl rfl rfl rfl
    (by rw [grownW_size]; omega) (fun k hk => grownW_old _ _ _ _ _ _ _ k hk) (fun _ => Nat.le_refl _)
    (fun hS hN hl => ent_of_new (upd_same _ _ _) Nat.one_pos hf.pos (grownW_new _ _ _ _ _ _ _) ((ho.append hn).cl_mono hS hl hN) (by rw [hz.len]; simp) (by simpa using hge) hle hz.one)
  refine ⟨_, _, S, _, hr, ?_, key.1, key.2⟩
  refine .own _ _ _ _ _ _ ?_ ?_ hge (fun _ => rfl) ?_
  · rw [setH_length H p _ hp.1]; omega
  · rw [upd_same]; exact Nat.le_refl _
  · intro _; rw [upd_same]; exact ⟨rfl, fun _ => rfl⟩

theorem appF_step {te : TE} (hte : TEok P te) (hm : RH w S ρ H) {p : Nat} (hp : Fresh H p) {t ty e u : TypeId} {i : TI} {inf : TypeInfo} {d : TypeDesc} {z : Value} (ht : P.underlying t = some (.slice e)) (hf : TF P e i inf d z)
    {xsz : Nat} {es : List (List AV)} {x y : Value} {b : AV} (hx : Rd w S ρ H.length (.sl xsz true es) x) (hy : Rd w S ρ H.length b y) {out : Out} (he : appF p i.size i.bytes xsz es (appArg H i (te u) b) = some out) (hc : condK out.c True) :
    Step P w S ρ H (Builtin.append_ #[t, u] ty #[x, y]) out.v (putH H out.w) := by
  cases hk : appArg H i (te u) b with
  | none => rw [hk] at he; cases he
  | some k =>
    rw [hk] at he
    obtain ⟨c, sz, cl, ys, r⟩ := k
    simp only [appF, Option.some.injEq] at he
    subst he
    obtain ⟨hc1, ⟨hfy, hfx⟩, hor, hroom⟩ := andO_split hc
    obtain ⟨news, hn, hargs⟩ := app_arg hte hm hf hy hk hc1 hfy
    simp only at hn hargs
    have hbp : 0 < inf.bytes := by rw [hf.bytes]; exact hf.bpos
    have hzs : z.cells.size = inf.size := by rw [(hf.zcells w S ρ 0).2, hf.size]
    have hsp : 0 < inf.size := by rw [hf.size]; exact hf.pos
    cases hx with
    | sl _ _ _ _ A len cap cell hl hc' hx' hfr hsz hcell hA hr =>
      have hcap : len = cap := (hfr rfl).symm
      subst hcap
      by_cases hys : ys = []
      · have hes : es = [] := hor.resolve_right (fun h => h hys)
        subst hys; subst hes
        have hl0 : len = 0 := by simpa using hl.symm
        subst hl0
        have hnews : news = [] := List.eq_nil_of_length_eq_zero (by simpa using hn.len)
        subst hnews
        have hrun := append_room (ty := ty) (w := w) (w' := w) ht hf.info hf.zero hbp hsp hzs (base := A) (sLen := 0) (sCap := 0) hargs (Nat.le_refl _) (by cases A <;> rfl)
        have key := hm.fresh hp w ⟨0, 0, 1, i.size⟩ (.arr cl 1 i.size none ([] ++ [])) rfl rfl rfl rfl (Nat.le_refl _) (fun _ _ => rfl) (fun h => by simp [live, upd_same] at h)
          (fun hS hN hl' => EntRd.of_rows (by rw [upd_same]) Nat.one_pos (by rw [upd_same]) hf.pos (by simp) (by rw [upd_same]; simp [maxLen]) (by simp) (by simp) (by intro h; rw [upd_same] at h; simp at h))
        refine ⟨_, w, S, _, hrun, ?_, key.1, key.2⟩
        refine .own _ _ _ _ _ _ ?_ ?_ (Nat.le_refl _) (fun h => by simp at h) ?_
        · show p < (setH H p _).length
          rw [setH_length H p _ hp.1]; omega
        · rw [upd_same]; exact Nat.le_refl _
        · intro _; rw [upd_same]; exact ⟨rfl, fun h => by simp at h⟩
      · have hylen : 0 < ys.length := by cases ys; exact absurd rfl hys; simp
        have hold : ∃ olds, RowsRd w S ρ 0 i.size es olds ∧ ∀ w' : World, w'.heap = w.heap → (Builtin.firstCells inf.size len (.slice A len len)).run P w' = .ok olds.toArray w' := by
          have hrd : Rd w S ρ H.length (.sl xsz true es) (.slice A len len) := .sl _ _ _ _ A len len cell hl hc' hx' hfr hsz hcell hA hr
          obtain ⟨olds, h1⟩ := contents_src (P := P) hm hrd (k := ⟨none, xsz, true, es, []⟩) rfl trivial hfx
          refine ⟨olds, h1.rows, fun w' hw => ?_⟩
          have := h1.first w' hw len (by simpa using Nat.le_of_eq hl.symm)
          rw [hf.size, this]
          have e1 : len * i.size = olds.length := by rw [h1.rows.len]; simp [hl]
          rw [e1, List.take_length]
        obtain ⟨olds, ho, holds⟩ := hold
        have hfit : (len + ys.length) * inf.bytes ≤ 140737488355328 := by rw [← hl, hf.bytes]; exact hroom
        have hrun := append_grow (ty := ty) ht hf.info hf.zero hbp hsp hzs holds hargs (show len < len + ys.length by omega) hfit
        refine grown_step hm hp hf (cl := cl) (olds := olds) (news := news) (old := len) ?_ hn hroom ?_
        · cases cl with
          | true => exact ho
          | false => exact ho.up
        · rw [hl]; exact hrun

theorem appO_step {te : TE} (hte : TEok P te) (hm : RH w S ρ H) {t ty e u : TypeId} {i : TI} {inf : TypeInfo} {d : TypeDesc} {z : Value} (ht : P.underlying t = some (.slice e)) (hf : TF P e i inf d z)
    {q ver len : Nat} {x y : Value} {b : AV} (hx : Rd w S ρ H.length (.own q ver len) x) (hy : Rd w S ρ H.length b y) {out : Out} (he : appO q ver len i.size i.bytes (H.getD q .none) (appArg H i (te u) b) = some out) (hc : condK out.c True) :
    Step P w S ρ H (Builtin.append_ #[t, u] ty #[x, y]) out.v (putH H out.w) := by
  cases hq : H.getD q .none with
  | none => rw [hq] at he; cases he
  | var => rw [hq] at he; cases he
  | arr cl' v qsz cap es =>
    rw [hq] at he
    cases hk : appArg H i (te u) b with
    | none => rw [hk] at he; cases he
    | some k =>
      rw [hk] at he
      obtain ⟨c, sz, cl, ys, r⟩ := k
      simp only [appO] at he
      obtain ⟨h1, h2⟩ := ifo_some he
      have := eqb_eq h1; subst this
      cases h2
      obtain ⟨hc1, hfy, rfl, rfl, hroom⟩ := andO_split hc
      obtain ⟨news, hn, hargs⟩ := app_arg hte hm hf hy hk hc1 hfy
      simp only at hn hargs
      have hbp : 0 < inf.bytes := by rw [hf.bytes]; exact hf.bpos
      have hzs : z.cells.size = inf.size := by rw [(hf.zcells w S ρ 0).2, hf.size]
      have hsp : 0 < inf.size := by rw [hf.size]; exact hf.pos
      have hget := getD_some hq (by simp)
      have hent := hm.ent q _ hget
      obtain ⟨e1, e2, e3, e4, e5, e6, e7, e8, e9⟩ := id hent
      have hqlt : q < H.length := (List.getElem?_eq_some_iff.1 hget).1
      have hlenH : ∀ e', (setH H q e').length = H.length := fun e' => by rw [setH_length H q e' (Nat.le_of_lt hqlt)]; omega
      cases hx with
      | own _ _ _ _ A cap0 hp' hver hcp hA hr =>
        obtain ⟨k1, k2⟩ := hr e1.symm
        by_cases hfit : es.length + ys.length ≤ cap0
        · -- room
          have hwr := write_rows (P := P) hm hget (cl := cl) hn (o := es.length) (Nat.le_refl _) (by omega) (nv := v + 1) (.inr (Nat.lt_succ_self _)) (cap' := none) (by simp) ((A.getD ⟨0, 0, none⟩).add (es.length * i.size)) (by
            intro h0
            rw [k2 (by omega)]
            simp only [Option.getD_some, Addr.add_lit, Nat.zero_add])
          obtain ⟨w', s1, s2, s3, s4⟩ := hwr
          rw [List.take_length, List.drop_eq_nil_of_le (Nat.le_add_right _ _), List.append_nil] at s3 s4
          have hrun := append_room (ty := ty) (w := w) (w' := w') ht hf.info hf.zero hbp hsp hzs (base := A) hargs hfit (by
            cases A with
            | none =>
              refine s2 ?_
              rcases Nat.eq_zero_or_pos (ρ q).cap with h0 | h0
              · exact h0
              · have := k2 (by omega); cases this
            | some a => rw [hf.size]; exact s1)
          refine ⟨_, w', S, _, hrun, ?_, s3, s4⟩
          refine .own _ _ _ _ _ _ (by show q < (setH H q _).length; rw [hlenH]; exact hqlt) (by rw [upd_same]; exact Nat.le_refl _) hfit ?_ ?_
          · intro h0
            have : 0 < cap0 := by omega
            rw [k2 this]; rfl
          · intro _
            rw [upd_same]
            exact ⟨k1, fun h0 => k2 h0⟩
        · -- grow
          have hold : ∃ olds, RowsRd w S ρ (if cl' then 0 else H.length) i.size es olds ∧ ∀ w' : World, w'.heap = w.heap → (Builtin.firstCells inf.size es.length (.slice A es.length cap0)).run P w' = .ok olds.toArray w' := by
            have hrd : Rd w S ρ H.length (.own q v es.length) (.slice A es.length cap0) := .own _ _ _ _ A cap0 hp' hver hcp hA hr
            obtain ⟨olds, g1⟩ := contents_src (P := P) hm hrd (k := ⟨some (dp (v = v ∧ es.length = es.length)), i.size, cl', es, [q]⟩) (esz := i.size) (by simp only [contents, hq, contO]) ⟨⟨rfl, rfl⟩, trivial⟩ (by cases es; rfl; exact (by simp [fits]; exact h1))
            refine ⟨olds, g1.rows, fun w' hw => ?_⟩
            have := g1.first w' hw es.length (Nat.le_refl _)
            rw [hf.size, this]
            rw [← g1.rows.len, List.take_length]
          obtain ⟨olds, ho, holds⟩ := hold
          have hfit' : (es.length + ys.length) * inf.bytes ≤ 140737488355328 := by rw [hf.bytes]; exact hroom
          have hrun := append_grow (ty := ty) ht hf.info hf.zero hbp hsp hzs holds hargs (show cap0 < es.length + ys.length by omega) hfit'
          have hge := grownCap_ge w (es.length + ys.length) cap0 e
          have hle := grownCap_le_maxLen w (es.length + ys.length) cap0 e (room_le hroom hf.bpos)
          have hz := zeros_rows (w := w) (S := S) (ρ := ρ) hf 0 (grownCap w (es.length + ys.length) cap0 e - (es.length + ys.length))
          have key := hm.move hget (e' := .arr (Rf.andB cl cl') (v + 1) i.size none (es ++ ys)) ⟨w.heap.size, grownCap w (es.length + ys.length) cap0 e, v + 1, i.size⟩ (grownW w olds news z.cells (es.length + ys.length) cap0 e) (by rw [e1]; exact Nat.lt_succ_self _) (fun _ => Nat.le_refl _) rfl rfl rfl
            (by rw [grownW_size]; omega) (fun k hk => grownW_old _ _ _ _ _ _ _ k hk)
            (fun hS hN => ent_of_new (upd_same _ _ _) (Nat.succ_pos _) hf.pos (grownW_new _ _ _ _ _ _ _) (((ho.clR cl).append (hn.clL cl')).cl_mono hS (Nat.le_refl _) hN) (by rw [hz.len]; simp) (by simpa using hge) hle hz.one)
          refine ⟨_, _, S, _, hrun, ?_, key.1, key.2⟩
          refine .own _ _ _ _ _ _ (by show q < (setH H q _).length; rw [hlenH]; exact hqlt) (by rw [upd_same]; exact Nat.le_refl _) hge (fun _ => rfl) ?_
          intro _; rw [upd_same]; exact ⟨rfl, fun _ => rfl⟩

theorem appI_step {te : TE} (hte : TEok P te) (hm : RH w S ρ H) {t ty e u : TypeId} {i : TI} {inf : TypeInfo} {d : TypeDesc} {z : Value} (ht : P.underlying t = some (.slice e)) (hf : TF P e i inf d z)
    {q ver off len : Nat} {x y : Value} {b : AV} (hx : Rd w S ρ H.length (.osub q ver off len) x) (hy : Rd w S ρ H.length b y) {out : Out} (he : appI q ver off len i.size (H.getD q .none) (appArg H i (te u) b) = some out) (hc : condK out.c True) :
    Step P w S ρ H (Builtin.append_ #[t, u] ty #[x, y]) out.v (putH H out.w) := by
  cases hq : H.getD q .none with
  | none => rw [hq] at he; cases he
  | var => rw [hq] at he; cases he
  | arr cl' v qsz cap es =>
    rw [hq] at he
    cases hk : appArg H i (te u) b with
    | none => rw [hk] at he; cases he
    | some k =>
      rw [hk] at he
      obtain ⟨c, sz, cl, ys, r⟩ := k
      simp only [appI] at he
      obtain ⟨h1, h2⟩ := ifo_some he
      have := eqb_eq h1; subst this
      cases h2
      obtain ⟨hc1, hfy, rfl, rfl, hle⟩ := andO_split hc
      obtain ⟨news, hn, hargs⟩ := app_arg hte hm hf hy hk hc1 hfy
      simp only at hn hargs
      have hbp : 0 < inf.bytes := by rw [hf.bytes]; exact hf.bpos
      have hzs : z.cells.size = inf.size := by rw [(hf.zcells w S ρ 0).2, hf.size]
      have hsp : 0 < inf.size := by rw [hf.size]; exact hf.pos
      have hget := getD_some hq (by simp)
      have hent := hm.ent q _ hget
      obtain ⟨e1, e2, e3, e4, e5, e6, e7, e8, e9⟩ := id hent
      have hqlt : q < H.length := (List.getElem?_eq_some_iff.1 hget).1
      have hlenH : ∀ e', (setH H q e').length = H.length := fun e' => by rw [setH_length H q e' (Nat.le_of_lt hqlt)]; omega
      cases hx with
      | osub _ _ _ _ _ A cap0 hp' hver hcp hA hr =>
        obtain ⟨k1, k2⟩ := hr e1.symm
        have hwr := write_rows (P := P) hm hget (cl := cl) hn (o := len) (by omega) (by omega) (nv := v) (.inl rfl) (cap' := cap) e7 ((A.getD ⟨0, 0, none⟩).add (len * i.size)) (by
          intro h0
          rw [k2 (by omega)]
          simp only [Option.getD_some, Addr.add_lit, Nat.zero_mul, Nat.zero_add])
        obtain ⟨w', s1, s2, s3, s4⟩ := hwr
        have hrun := append_room (ty := ty) (w := w) (w' := w') ht hf.info hf.zero hbp hsp hzs (base := A) (sLen := len) (sCap := cap0) hargs (by omega) (by
          cases A with
          | none =>
            refine s2 ?_
            rcases Nat.eq_zero_or_pos (ρ q).cap with h0 | h0
            · exact h0
            · have := k2 (by omega); cases this
          | some a => rw [hf.size]; exact s1)
        refine ⟨_, w', S, _, hrun, ?_, s3, s4⟩
        refine .osub _ _ _ _ _ _ _ (by show q < (setH H q _).length; rw [hlenH]; exact hqlt) (by rw [upd_same]; exact Nat.le_refl _) (by omega) ?_ ?_
        · intro h0
          have : 0 < cap0 := by omega
          rw [k2 this]; rfl
        · intro _
          rw [upd_same]
          exact ⟨k1, fun h0 => k2 h0⟩

theorem appX_step {te : TE} (hte : TEok P te) (hm : RH w S ρ H) {p : Nat} (hp : Fresh H p) {t ty e u : TypeId} {i : TI} {inf : TypeInfo} {d : TypeDesc} {z : Value} (ht : P.underlying t = some (.slice e)) (hf : TF P e i inf d z)
    {q ver off len : Nat} {x y : Value} {b : AV} (hx : Rd w S ρ H.length (.osub q ver off len) x) (hy : Rd w S ρ H.length b y) {out : Out} (he : appX p q ver off len i.size i.bytes (H.getD q .none) (appArg H i (te u) b) = some out) (hc : condK out.c True) :
    Step P w S ρ H (Builtin.append_ #[t, u] ty #[x, y]) out.v (putH H out.w) := by
  cases hq : H.getD q .none with
  | none => rw [hq] at he; cases he
  | var => rw [hq] at he; cases he
  | arr cl' v qsz cap es =>
    rw [hq] at he
    cases hk : appArg H i (te u) b with
    | none => rw [hk] at he; cases cap <;> cases he
    | some k =>
      rw [hk] at he
      obtain ⟨c, sz, cl, ys, r⟩ := k
      cases cap with
      | none => cases he
      | some cap =>
      simp only [appX] at he
      obtain ⟨h1, h2⟩ := ifo_some he
      have := eqb_eq h1; subst this
      cases h2
      obtain ⟨hc1, hfy, rfl, rfl, hle, hbig, hroom⟩ := andO_split hc
      obtain ⟨news, hn, hargs⟩ := app_arg hte hm hf hy hk hc1 hfy
      simp only at hn hargs
      have hbp : 0 < inf.bytes := by rw [hf.bytes]; exact hf.bpos
      have hzs : z.cells.size = inf.size := by rw [(hf.zcells w S ρ 0).2, hf.size]
      have hsp : 0 < inf.size := by rw [hf.size]; exact hf.pos
      have hget := getD_some hq (by simp)
      have hent := hm.ent q _ hget
      obtain ⟨e1, e2, e3, e4, e5, e6, e7, e8, e9⟩ := id hent
      have hlt : (es.take len).length = len := by simp; omega
      cases hx with
      | osub _ _ _ _ _ A cap0 hp' hver hcp hA hr =>
        obtain ⟨k1, k2⟩ := hr e1.symm
        have hcap := e7 cap rfl
        have hold : ∃ olds, RowsRd w S ρ (if cl' then 0 else H.length) i.size (es.take len) olds ∧ ∀ w' : World, w'.heap = w.heap → (Builtin.firstCells inf.size len (.slice A len cap0)).run P w' = .ok olds.toArray w' := by
          have hrd : Rd w S ρ H.length (.osub q v 0 len) (.slice A len cap0) := .osub _ _ _ _ _ A cap0 hp' hver hcp hA hr
          obtain ⟨olds, g1⟩ := contents_src (P := P) hm hrd (k := ⟨some (dp (v = v ∧ 0 + len ≤ es.length)), i.size, cl', (es.drop 0).take len, [q]⟩) (esz := i.size) (by simp only [contents, hq, contS]) ⟨⟨rfl, by omega⟩, trivial⟩ (by
            generalize (es.drop 0).take len = l
            cases l
            · rfl
            · exact h1)
          rw [List.drop_zero] at g1
          refine ⟨olds, g1.rows, fun w' hw => ?_⟩
          have := g1.first w' hw len (by rw [hlt]; exact Nat.le_refl _)
          rw [hf.size, this]
          have e1 : len * i.size = olds.length := by rw [g1.rows.len, hlt]
          rw [e1, List.take_length]
        obtain ⟨olds, ho, holds⟩ := hold
        have hfit' : (len + ys.length) * inf.bytes ≤ 140737488355328 := by rw [hf.bytes]; exact hroom
        have hrun := append_grow (ty := ty) ht hf.info hf.zero hbp hsp hzs holds hargs (show cap0 < len + ys.length by omega) hfit'
        have hs := grown_step (P := P) hm hp hf (m := Builtin.append_ #[t, u] ty #[.slice A len cap0, y]) (cl := Rf.andB cl cl') (olds := olds) (news := news) (old := cap0) (ho.clR cl) (hn.clL cl') (by rw [hlt]; exact hroom) (by rw [hlt]; exact hrun)
        rw [hlt] at hs
        exact hs

theorem run_copy {dT sT ty e : TypeId} {i : TypeInfo} (ht : P.underlying dT = some (.slice e)) (hi : P.info? e = some i) {base : Option Addr} {dLen dCap : Nat} {x : Value} {n : Nat} {news : List Value} (hl : (Builtin.lenOf x).run P w = .ok n w)
    (hf : (Builtin.firstCells i.size (min n dLen) x).run P w = .ok news.toArray w) {w' : World} (hst : match base with | some a => (storeCells a news).run P w = .ok () w' | none => w' = w) :
    (Builtin.copy_ #[dT, sT] ty #[.slice base dLen dCap, x]).run P w = .ok (goInt (min n dLen : Nat)) w' := by
  have hmin : Nat.min n dLen = min n dLen := rfl
  cases base with
  | none =>
    simp only at hst
    subst hst
    simp [Builtin.copy_, run_underlying ht, hl, hmin, sizeOf, typeInfo, hi, hf]
  | some a =>
    simp only at hst
    simp [Builtin.copy_, run_underlying ht, hl, hmin, sizeOf, typeInfo, hi, hf, hst]

theorem copy_step (hm : RH w S ρ H) {dT sT ty e : TypeId} {i : TI} {inf : TypeInfo} {d : TypeDesc} {z : Value} (ht : P.underlying dT = some (.slice e)) (hf : TF P e i inf d z)
    {a b : AV} {x y : Value} (hx : Rd w S ρ H.length a x) (hy : Rd w S ρ H.length b y) {out : Out} (he : evCopy H i.size a (contents H b) = some out) (hc : condK out.c True) :
    Step P w S ρ H (Builtin.copy_ #[dT, sT] ty #[x, y]) out.v (putH H out.w) := by
  have main : ∀ (q ver off len cap0 : Nat) (whole : Bool) (A : Option Addr), x = .slice A len cap0 → (ver = (ρ q).ver → off + cap0 = (ρ q).cap ∧ len ≤ cap0 ∧ (0 < cap0 → A = some ⟨(ρ q).blk, off * (ρ q).sz, none⟩)) → (whole = true → off = 0) →
      copyTo i.size q ver off len whole (H.getD q .none) (contents H b) = some out → Step P w S ρ H (Builtin.copy_ #[dT, sT] ty #[x, y]) out.v (putH H out.w) := by
    intro q ver off len cap0 whole A hxe hr hwh he
    cases hq : H.getD q .none with
    | none => rw [hq] at he; cases he
    | var => rw [hq] at he; cases he
    | arr cl' v qsz cap es =>
      rw [hq] at he
      cases hk : contents H b with
      | none => rw [hk] at he; cases he
      | some k =>
        rw [hk] at he
        obtain ⟨c, sz, cl, ys, r⟩ := k
        simp only [copyTo] at he
        obtain ⟨h1, h2⟩ := ifo_some he
        have := eqb_eq h1; subst this
        cases h2
        obtain ⟨hc1, hfy, rfl, hlen⟩ := andO_split hc
        obtain ⟨vs, hs⟩ := contents_src (P := P) hm hy hk hc1 hfy
        simp only at hs
        have hget := getD_some hq (by simp)
        have hent := hm.ent q _ hget
        obtain ⟨e1, e2, e3, e4, e5, e6, e7, e8, e9⟩ := id hent
        obtain ⟨k1, k3, k2⟩ := hr e1.symm
        have hol : off + len ≤ es.length := by
          cases whole with
          | true => have := hwh rfl; subst this; simp only [lenOK] at hlen; omega
          | false => simpa only [lenOK] using hlen
        have hrows := hs.rows.take (min ys.length len)
        have hyl : (ys.take (min ys.length len)).length = min ys.length len := by rw [List.length_take]; omega
        have hwr := write_rows (P := P) hm hget (cl := cl) hrows (o := off) (by omega) (by rw [hyl]; omega) (nv := v) (.inl rfl) (cap' := cap) e7 ⟨(ρ q).blk, off * i.size, none⟩ (fun _ => rfl)
        obtain ⟨w', s1, s2, s3, s4⟩ := hwr
        rw [hyl] at s3 s4
        have hrun := run_copy (P := P) (w := w) (w' := w') (dT := dT) (sT := sT) (ty := ty) ht hf.info (base := A) (dLen := len) (dCap := cap0) hs.len (by rw [hf.size]; exact hs.first w rfl _ (by omega)) (by
          rcases Nat.eq_zero_or_pos cap0 with h3 | h3
          · have hn0 : vs.take (min ys.length len * i.size) = [] := by
              have : min ys.length len = 0 := by omega
              rw [this]; simp
            rw [hn0] at s1 ⊢
            have hw : w = w' := by
              have : (storeCells ⟨(ρ q).blk, off * i.size, none⟩ []).run P w = .ok () w := rfl
              rw [this] at s1
              cases s1; rfl
            subst hw
            cases A <;> rfl
          · rw [k2 h3, e3]
            exact s1)
        subst hxe
        exact ⟨_, w', S, _, hrun, .int _ _ _, s3, s4⟩
  unfold evCopy at he
  split at he
  · rename_i q ver len
    cases hx with
    | own _ _ _ _ A cap0 hp' hver hcp hA hr =>
      exact main q ver 0 len cap0 true A rfl (fun hv => by obtain ⟨k1, k2⟩ := hr hv; exact ⟨by omega, hcp, fun h0 => by rw [k2 h0]; simp⟩) (fun _ => rfl) he
  · rename_i q ver off len
    cases hx with
    | osub _ _ _ _ _ A cap0 hp' hver hcp hA hr =>
      exact main q ver off len cap0 false A rfl (fun hv => by obtain ⟨k1, k2⟩ := hr hv; exact ⟨k1, hcp, k2⟩) (by simp) he
  · cases he

theorem clear_step {te : TE} (hte : TEok P te) (hm : RH w S ρ H) {t ty : TypeId} {a : AV} {x : Value} (hx : Rd w S ρ H.length a x) {out : Out} (he : evCl H a (elemI te (te t)) = some out) (hc : condK out.c True) :
    Step P w S ρ H (Builtin.clear_ #[t] ty #[x]) out.v (putH H out.w) := by
  cases hi : elemI te (te t) with
  | none => rw [hi] at he; cases he
  | some i =>
    rw [hi] at he
    obtain ⟨j, e, h1, h2, h3⟩ := elemI_some hi
    obtain ⟨inf, d, z, hf⟩ := hte.get h1
    obtain ⟨inf', d', z', hf'⟩ := hte.get h3
    have := hf.kslice h2; subst this
    simp only [evCl] at he
    unfold evClear at he
    split at he
    · rename_i q ver off len
      cases hq : H.getD q .none with
      | none => rw [hq] at he; cases he
      | var => rw [hq] at he; cases he
      | arr cl v sz cap es =>
        rw [hq] at he
        simp only [clearE] at he
        obtain ⟨h4, h5⟩ := ifo_some he
        obtain ⟨h6, h7⟩ := andB_true h4
        have hsz := lenEq_eq h6
        cases h5
        simp only [condK] at hc
        obtain ⟨⟨rfl, hle⟩, _⟩ := hc
        have hget := getD_some hq (by simp)
        have hent := hm.ent q _ hget
        obtain ⟨e1, e2, e3, e4, e5, e6, e7, e8, e9⟩ := id hent
        have hiz : i.size = sz := by rw [← hf'.zlen]; exact hsz
        subst hiz
        have hz := zeros_rows (w := w) (S := S) (ρ := ρ) hf' 0 len
        cases hx with
        | osub _ _ _ _ _ A cap0 hp' hver hcp hA hr =>
          obtain ⟨k1, k2⟩ := hr e1.symm
          have hwr := write_rows (P := P) hm hget (cl := true) (cl' := cl) (ys := List.replicate len (nfs i.zero)) (vs := (Builtin.zeroCells z'.cells len).toList) hz (o := off) (by omega) (by simp only [List.length_replicate]; omega) (nv := v) (.inl rfl) (cap' := cap) e7 ⟨(ρ q).blk, off * i.size, none⟩ (fun _ => rfl)
          obtain ⟨w', s1, s2, s3, s4⟩ := hwr
          simp only [List.length_replicate, Rf.andB] at s3 s4
          have hrun : (Builtin.clear_ #[t] ty #[.slice A len cap0]).run P w = .ok (.tuple #[]) w' := by
            rcases Nat.eq_zero_or_pos len with h0 | h0
            · subst h0
              have hz0 : (Builtin.zeroCells z'.cells 0).toList = [] := by simp [Builtin.zeroCells, Array.range_zero']
              rw [hz0] at s1
              have hw : w = w' := by
                have : (storeCells ⟨(ρ q).blk, off * i.size, none⟩ []).run P w = .ok () w := rfl
                rw [this] at s1
                cases s1; rfl
              subst hw
              cases A <;> simp [Builtin.clear_, run_underlying hf.und]
            · have hA' := k2 (by omega)
              rw [e3] at hA'
              subst hA'
              obtain ⟨n, rfl⟩ : ∃ n, len = n + 1 := ⟨len - 1, by omega⟩
              simp [Builtin.clear_, run_underlying hf.und, hf'.run_zero, s1]
          exact ⟨_, w', S, _, hrun, .tup _ [] [] rfl (by simp), s3, s4⟩
    · cases he

end
end Go.Rf
