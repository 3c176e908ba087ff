/-
  THE SYMBOLIC EXECUTOR, part 5: rows of cells, and what the type table promises.
-/
import Derived.Test.YtdojencjbmahpaaGreatDoorRf4
set_option linter.unusedVariables false
set_option linter.unusedSimpArgs false
namespace Go.Rf

/-! ### Rows -/
/-- A list of values tells rows of cells, one behind the other. -/
structure RowsRd (w : World) (S : Nat → Prop) (ρ : Reg) (n sz : Nat) (es : List (List AV)) (vs : List Value) : Prop where
  len : vs.length = es.length * sz
  one : ∀ v ∈ vs, v.oneCell' = true
  row : ∀ e ∈ es, e.length = sz
  rd : ∀ (i k : Nat) (e : List AV) (a : AV) (v : Value), es[i]? = some e → e[k]? = some a → vs[i * sz + k]? = some v → Rd w S ρ n a v

theorem idx_lt {i n k sz : Nat} (hi : i < n) (hk : k < sz) : i * sz + k < n * sz := by
  have h1 : (i + 1) * sz ≤ n * sz := Nat.mul_le_mul_right _ hi
  rw [Nat.add_mul] at h1
  omega

theorem RowsRd.nil (w : World) (S : Nat → Prop) (ρ : Reg) (n sz : Nat) : RowsRd w S ρ n sz [] [] := ⟨by simp, by simp, by simp, by simp⟩

theorem RowsRd.append {w : World} {S : Nat → Prop} {ρ : Reg} {n sz : Nat} {es fs : List (List AV)} {vs us : List Value} (h : RowsRd w S ρ n sz es vs) (k : RowsRd w S ρ n sz fs us) : RowsRd w S ρ n sz (es ++ fs) (vs ++ us) where
  len := by simp [h.len, k.len, Nat.add_mul]
  one := by intro v hv; exact (List.mem_append.1 hv).elim (h.one v) (k.one v)
  row := by intro v hv; exact (List.mem_append.1 hv).elim (h.row v) (k.row v)
  rd := by
    intro i j e a v he ha hv
    rcases Nat.lt_or_ge i es.length with hi | hi
    · rw [List.getElem?_append_left hi] at he
      have hj : j < sz := by
        have := (List.getElem?_eq_some_iff.1 ha).1
        rw [h.row e (List.mem_of_getElem? he)] at this
        exact this
      rw [List.getElem?_append_left (by rw [h.len]; exact idx_lt hi hj)] at hv
      exact h.rd i j e a v he ha hv
    · rw [List.getElem?_append_right hi] at he
      have h1 : es.length * sz ≤ i * sz := Nat.mul_le_mul_right _ hi
      rw [List.getElem?_append_right (by rw [h.len]; omega)] at hv
      refine k.rd (i - es.length) j e a v he ha ?_
      rw [← hv]
      congr 1
      rw [h.len, Nat.sub_mul]
      omega

theorem RowsRd.take {w : World} {S : Nat → Prop} {ρ : Reg} {n sz : Nat} {es : List (List AV)} {vs : List Value} (h : RowsRd w S ρ n sz es vs) (m : Nat) : RowsRd w S ρ n sz (es.take m) (vs.take (m * sz)) where
  len := by
    rw [List.length_take, List.length_take, h.len]
    rcases Nat.le_total m es.length with hm | hm
    · have := Nat.mul_le_mul_right sz hm
      rw [Nat.min_eq_left hm, Nat.min_eq_left this]
    · have := Nat.mul_le_mul_right sz hm
      rw [Nat.min_eq_right hm, Nat.min_eq_right this]
  one := fun v hv => h.one v (List.mem_of_mem_take hv)
  row := fun v hv => h.row v (List.mem_of_mem_take hv)
  rd := by
    intro i j e a v he ha hv
    rw [List.getElem?_take] at he hv
    split at he
    · split at hv
      · exact h.rd i j e a v he ha hv
      · cases hv
    · cases he

theorem RowsRd.drop {w : World} {S : Nat → Prop} {ρ : Reg} {n sz : Nat} {es : List (List AV)} {vs : List Value} (h : RowsRd w S ρ n sz es vs) (m : Nat) : RowsRd w S ρ n sz (es.drop m) (vs.drop (m * sz)) where
  len := by simp [h.len, Nat.sub_mul]
  one := fun v hv => h.one v (List.mem_of_mem_drop hv)
  row := fun v hv => h.row v (List.mem_of_mem_drop hv)
  rd := by
    intro i j e a v he ha hv
    rw [List.getElem?_drop] at he hv
    exact h.rd (m + i) j e a v he ha (by rw [← hv, Nat.add_mul]; congr 1; omega)

theorem RowsRd.mono {w w' : World} {S S' : Nat → Prop} {ρ ρ' : Reg} {n m sz : Nat} {es : List (List AV)} {vs : List Value} (h : RowsRd w S ρ n sz es vs) (hS : Later S S' w w') (hm : n ≤ m) (hn : Newer ρ ρ' n) : RowsRd w' S' ρ' m sz es vs :=
  ⟨h.len, h.one, h.row, fun i k e a v he ha hv => (h.rd i k e a v he ha hv).mono hS hm hn⟩

theorem RowsRd.up {w : World} {S : Nat → Prop} {ρ : Reg} {n sz : Nat} {es : List (List AV)} {vs : List Value} (h : RowsRd w S ρ 0 sz es vs) : RowsRd w S ρ n sz es vs :=
  h.mono (Later.refl _ _) (Nat.zero_le _) (Newer.refl _ _)

/-- The rows of one element. -/
theorem RowsRd.one_row {w : World} {S : Nat → Prop} {ρ : Reg} {n sz : Nat} {cells : List AV} {vs : List Value} (hl : vs.length = cells.length) (hs : cells.length = sz) (h1 : ∀ v ∈ vs, v.oneCell' = true)
    (h : ∀ (i : Nat) (a : AV) (v : Value), cells[i]? = some a → vs[i]? = some v → Rd w S ρ n a v) : RowsRd w S ρ n sz [cells] vs where
  len := by simp [hl, hs]
  one := h1
  row := by simp [hs]
  rd := by
    intro i k e a v he ha hv
    cases i with
    | zero => simp at he; subst he; exact h k a v ha (by simpa using hv)
    | succ i => simp at he

theorem RowsRd.replicate {w : World} {S : Nat → Prop} {ρ : Reg} {n sz : Nat} {cells : List AV} {z : List Value} (h : RowsRd w S ρ n sz [cells] z) : ∀ m, RowsRd w S ρ n sz (List.replicate m cells) (List.replicate m z).flatten
  | 0 => by simpa using RowsRd.nil w S ρ n sz
  | m + 1 => by
    have := h.append (RowsRd.replicate h m)
    simpa [List.replicate_succ] using this

/-- One row of the rows is another. -/
theorem list_set_eq {α : Type} (l : List α) (i : Nat) (x : α) (h : i < l.length) : l.set i x = l.take i ++ [x] ++ l.drop (i + 1) := by
  apply List.ext_getElem?
  intro j
  simp only [List.getElem?_set, List.getElem?_append, List.length_take, List.length_append, List.length_singleton, List.getElem?_take, List.getElem?_drop]
  by_cases hj : j < i
  · simp [show i ≠ j by omega, show j < min i l.length by omega, hj, show j < min i l.length + 1 by omega]
  · by_cases hj2 : i = j
    · subst hj2
      have : min i l.length = i := by omega
      simp [h, this]
    · have : min i l.length = i := by omega
      simp [hj2, this, hj, show ¬ j < i + 1 by omega]
      congr 1
      omega

theorem RowsRd.set {w : World} {S : Nat → Prop} {ρ : Reg} {n sz : Nat} {es : List (List AV)} {vs : List Value} (h : RowsRd w S ρ n sz es vs) {i : Nat} (hi : i < es.length) {cells : List AV} {us : List Value} (hu : RowsRd w S ρ n sz [cells] us) :
    RowsRd w S ρ n sz (es.set i cells) (vs.take (i * sz) ++ us ++ vs.drop ((i + 1) * sz)) := by
  rw [list_set_eq es i cells hi]
  exact ((h.take i).append hu).append (h.drop (i + 1))

theorem RowsRd.row_at {w : World} {S : Nat → Prop} {ρ : Reg} {n sz : Nat} {es : List (List AV)} {vs : List Value} (h : RowsRd w S ρ n sz es vs) {i : Nat} {e : List AV} (he : es[i]? = some e) :
    RowsRd w S ρ n sz [e] ((vs.drop (i * sz)).take sz) := by
  have := (h.drop i).take 1
  have hi := (List.getElem?_eq_some_iff.1 he).1
  have h2 : (es.drop i).take 1 = [e] := by
    rw [List.take_one, List.head?_drop, he]
    rfl
  rw [h2, Nat.one_mul] at this
  exact this

/-- What the abstract memory tells of an array: its cells, as rows. -/
theorem EntRd.rows {w : World} {S : Nat → Prop} {ρ : Reg} {n p : Nat} {cl : Bool} {ver sz : Nat} {cap : Option Nat} {es : List (List AV)} (h : EntRd w S ρ n p (.arr cl ver sz cap es)) (hc : 0 < (ρ p).cap) :
    ∃ cs ty, w.heap[(ρ p).blk]? = some (.cells cs ty (0, 0)) ∧ cs.size = (ρ p).cap * sz ∧ (∀ v ∈ cs, v.oneCell' = true) ∧ RowsRd w S ρ (if cl then 0 else n) sz es (cs.toList.take (es.length * sz)) := by
  obtain ⟨h1, h2, h3, h4, h5, h6, h7, h8, h9⟩ := h
  obtain ⟨cs, ty, k1, k2, k3, k4⟩ := h9 hc
  refine ⟨cs, ty, k1, k2, k3, ⟨?_, fun v hv => k3 v (by simpa using List.mem_of_mem_take hv), h8, ?_⟩⟩
  · have := Nat.mul_le_mul_right sz h5
    have h10 : cs.toList.length = (ρ p).cap * sz := k2
    rw [List.length_take, h10]
    omega
  · intro i k e a v he ha hv
    rw [List.getElem?_take] at hv
    split at hv
    · exact k4 i k e a v he ha (by simpa using hv)
    · cases hv
theorem EntRd.of_rows {w : World} {S : Nat → Prop} {ρ : Reg} {n p : Nat} {cl : Bool} {ver sz : Nat} {cap : Option Nat} {es : List (List AV)} (hver : (ρ p).ver = ver) (hv0 : 0 < ver) (hsz : (ρ p).sz = sz) (h0 : 0 < sz)
    (hl : es.length ≤ (ρ p).cap) (hm : (ρ p).cap ≤ maxLen) (hcap : ∀ c, cap = some c → c = (ρ p).cap) (hrow : ∀ e ∈ es, e.length = sz)
    (h : 0 < (ρ p).cap → ∃ cs ty, w.heap[(ρ p).blk]? = some (.cells cs ty (0, 0)) ∧ cs.size = (ρ p).cap * sz ∧ (∀ v ∈ cs, v.oneCell' = true) ∧ RowsRd w S ρ (if cl then 0 else n) sz es (cs.toList.take (es.length * sz))) :
    EntRd w S ρ n p (.arr cl ver sz cap es) := by
  refine ⟨hver, hv0, hsz, h0, hl, hm, hcap, hrow, fun hc => ?_⟩
  obtain ⟨cs, ty, k1, k2, k3, k4⟩ := h hc
  refine ⟨cs, ty, k1, k2, k3, fun i k e a v he ha hv => k4.rd i k e a v he ha ?_⟩
  have hi := (List.getElem?_eq_some_iff.1 he).1
  have hk : k < sz := by
    have := (List.getElem?_eq_some_iff.1 ha).1
    rwa [hrow e (List.mem_of_getElem? he)] at this
  rw [List.getElem?_take, if_pos (idx_lt hi hk)]
  simpa using hv

theorem Addr.add_add (a : Addr) (x y : Nat) : (a.add x).add y = a.add (x + y) := by
  unfold Addr.add
  by_cases hx : x = 0
  · subst hx; simp
  · by_cases hy : y = 0
    · subst hy; simp
    · rw [if_neg hx, if_neg hy, if_neg (by omega)]
      simp [Nat.add_assoc]
theorem Addr.add_block (a : Addr) (x : Nat) : (a.add x).block = a.block := by unfold Addr.add; split <;> rfl

/-- A row of a stable block, as a slice. -/
theorem Rd.sl_of_rows {w : World} {S : Nat → Prop} {ρ : Reg} {n sz : Nat} {es : List (List AV)} {vs : List Value} (fr : Bool) (h : RowsRd w S ρ 0 sz es vs) (A : Option Addr) (cap : Nat) (hc : es.length ≤ cap) (hm : cap ≤ maxLen) (hf : fr = true → cap = es.length)
    (hA : 0 < es.length → ∃ a, A = some a ∧ S a.block ∧ ∀ j v, vs[j]? = some v → w.cell? (a.add j) = some v) : Rd w S ρ n (.sl sz fr es) (.slice A es.length cap) := by
  refine .sl _ sz fr es A es.length cap (fun i k => vs.getD (i * sz + k) default) rfl hc hm hf h.row ?_ ?_ ?_
  · intro i k hi hk
    obtain ⟨a, h1, h2, h3⟩ := hA (by omega)
    have hlt : i * sz + k < vs.length := by rw [h.len]; exact idx_lt hi hk
    have hg : vs[i * sz + k]? = some vs[i * sz + k] := List.getElem?_eq_getElem hlt
    refine ⟨a, h1, h2, ?_, ?_⟩
    · rw [h3 _ _ hg]; simp [List.getD_eq_getElem?_getD, hg]
    · rw [List.getD_eq_getElem?_getD, hg]; exact h.one _ (List.getElem_mem hlt)
  · intro h0
    obtain ⟨a, h1, _⟩ := hA h0
    simp [h1]
  · intro i k e a he ha
    have hi := (List.getElem?_eq_some_iff.1 he).1
    have hk : k < sz := by
      have := (List.getElem?_eq_some_iff.1 ha).1
      rwa [h.row e (List.mem_of_getElem? he)] at this
    have hlt : i * sz + k < vs.length := by rw [h.len]; exact idx_lt hi hk
    have hg : vs[i * sz + k]? = some vs[i * sz + k] := List.getElem?_eq_getElem hlt
    rw [List.getD_eq_getElem?_getD, hg]
    exact h.rd i k e a _ he ha hg

/-- The rows of a slice that is told by value. -/
theorem rows_of_sl {w : World} {S : Nat → Prop} {ρ : Reg} {sz len : Nat} {es : List (List AV)} {A : Option Addr} {cell : Nat → Nat → Value} (hl : es.length = len) (hsz : ∀ e ∈ es, e.length = sz)
    (hcell : ∀ i k, i < len → k < sz → ∃ a, A = some a ∧ S a.block ∧ w.cell? (a.add (i * sz + k)) = some (cell i k) ∧ (cell i k).oneCell' = true)
    (h : ∀ (i k : Nat) (e : List AV) (a : AV), es[i]? = some e → e[k]? = some a → Rd w S ρ 0 a (cell i k)) :
    ∃ vs, RowsRd w S ρ 0 sz es vs ∧ (∀ j v, vs[j]? = some v → ∃ a, A = some a ∧ S a.block ∧ w.cell? (a.add j) = some v) := by
  have hdm : ∀ j, j < len * sz → j / sz < len ∧ j % sz < sz ∧ j / sz * sz + j % sz = j := by
    intro j hj
    have hs : 0 < sz := by rcases Nat.eq_zero_or_pos sz with h0 | h0; subst h0; simp at hj; exact h0
    exact ⟨(Nat.div_lt_iff_lt_mul hs).2 hj, Nat.mod_lt _ hs, by rw [Nat.mul_comm]; exact Nat.div_add_mod j sz⟩
  have key : ∀ j v, (((List.range (len * sz)).map fun j => cell (j / sz) (j % sz))[j]? = some v) → j < len * sz ∧ v = cell (j / sz) (j % sz) := by
    intro j v hv
    rw [List.getElem?_map] at hv
    rcases Nat.lt_or_ge j (len * sz) with hj | hj
    · rw [List.getElem?_range hj] at hv
      simp at hv
      exact ⟨hj, hv.symm⟩
    · rw [List.getElem?_eq_none (by simpa using hj)] at hv
      simp at hv
  refine ⟨(List.range (len * sz)).map fun j => cell (j / sz) (j % sz), ⟨by simp [hl], ?_, hsz, ?_⟩, ?_⟩
  · intro v hv
    obtain ⟨j, hj⟩ := List.getElem?_of_mem hv
    obtain ⟨h1, rfl⟩ := key j v hj
    obtain ⟨h2, h3, h4⟩ := hdm j h1
    obtain ⟨a, _, _, _, h5⟩ := hcell _ _ h2 h3
    exact h5
  · intro i k e a v he ha hv
    have hk : k < sz := by
      have := (List.getElem?_eq_some_iff.1 ha).1
      rwa [hsz e (List.mem_of_getElem? he)] at this
    obtain ⟨h1, rfl⟩ := key _ _ hv
    have hs : 0 < sz := by omega
    rw [Nat.add_comm, Nat.add_mul_div_right _ _ hs, Nat.div_eq_of_lt hk, Nat.zero_add, Nat.add_mul_mod_self_right, Nat.mod_eq_of_lt hk]
    exact h i k e a he ha
  · intro j v hv
    obtain ⟨h1, rfl⟩ := key j v hv
    obtain ⟨h2, h3, h4⟩ := hdm j h1
    obtain ⟨a, e1, e2, e3, _⟩ := hcell _ _ h2 h3
    exact ⟨a, e1, e2, by rw [h4] at e3; exact e3⟩

/-! ### Cells of a value -/
theorem Rd.cells {w : World} {S : Nat → Prop} {ρ : Reg} {n : Nat} {a : AV} {v : Value} (h : Rd w S ρ n a v) {cs : List AV} (hc : cellsOf a = some cs) : CellsRd w S ρ n cs v.cells := by
  have one : ∀ (a : AV) (v : Value), v.oneCell' = true → v.cells = #[v] → Rd w S ρ n a v → CellsRd w S ρ n [a] v.cells := by
    intro a v h1 h2 h
    refine ⟨by simp [h2], ?_, ?_⟩
    · intro u hu
      rw [h2] at hu
      simp at hu
      subst hu
      exact h1
    · intro i x u hx hu
      rw [h2] at hu
      cases i with
      | zero => simp at hx hu; subst hx; subst hu; exact h
      | succ i => simp at hx
  cases h with
  | junk => cases hc
  | tup => cases hc
  | agg _ cs' vs hl h1 h =>
    cases hc
    refine ⟨by simp [Value.cells, hl], ?_, ?_⟩
    · intro u hu
      exact h1 u (by simpa [Value.cells] using hu)
    · intro i x u hx hu
      exact h i x u hx (by simpa [Value.cells] using hu)
  | int _ k x => cases hc; exact one _ _ rfl rfl (.int _ _ _)
  | bool _ b => cases hc; exact one _ _ rfl rfl (.bool _ _)
  | str _ s => cases hc; exact one _ _ rfl rfl (.str _ _)
  | fn _ f => cases hc; exact one _ _ rfl rfl (.fn _ _)
  | sl _ sz fr es A len cap cell hl hc' hx hf hsz hcell hA h => cases hc; exact one _ _ rfl rfl (.sl _ sz fr es A len cap cell hl hc' hx hf hsz hcell hA h)
  | own _ p ver len A cap hp hv hc' hA h => cases hc; exact one _ _ rfl rfl (.own _ _ _ _ _ _ hp hv hc' hA h)
  | osub _ p ver off len A cap hp hv hc' hA h => cases hc; exact one _ _ rfl rfl (.osub _ _ _ _ _ _ _ hp hv hc' hA h)
  | ptr _ p off A hp hv h => cases hc; exact one _ _ rfl rfl (.ptr _ _ _ _ hp hv h)
  | eptr _ p ver i k A hp hv h => cases hc; exact one _ _ rfl rfl (.eptr _ _ _ _ _ _ hp hv h)
  | rptr _ sz es i k a e cell he hl hcell h => cases hc; exact one _ _ rfl rfl (.rptr _ sz es i k a e cell he hl hcell h)

theorem CellsRd.set {w : World} {S : Nat → Prop} {ρ : Reg} {n : Nat} {cells : List AV} {cs : Array Value} (h : CellsRd w S ρ n cells cs) (i : Nat) {a : AV} {v : Value} (hv : Rd w S ρ n a v) (h1 : v.oneCell' = true) :
    CellsRd w S ρ n (cells.set i a) (cs.setIfInBounds i v) := by
  refine ⟨by simpa using h.1, ?_, ?_⟩
  · intro u hu
    rcases Array.mem_or_eq_of_mem_setIfInBounds hu with h2 | h2
    · exact h.2.1 u h2
    · subst h2; exact h1
  · intro j x u hx hu
    by_cases hij : i = j
    · subst hij
      by_cases hl : i < cells.length
      · simp [List.getElem?_set, hl] at hx
        simp [Array.getElem?_setIfInBounds, h.1, hl] at hu
        subst hx; subst hu
        exact hv
      · rw [List.getElem?_eq_none (by simp; omega)] at hx
        cases hx
    · rw [List.getElem?_set_ne hij] at hx
      rw [Array.getElem?_setIfInBounds_ne hij] at hu
      exact h.2.2 j x u hx hu

theorem CellsRd.setCells {w : World} {S : Nat → Prop} {ρ : Reg} {n : Nat} : ∀ (as : List AV) (vs : List Value) (off : Nat) (cells : List AV) (cs : Array Value), CellsRd w S ρ n cells cs → vs.length = as.length → (∀ v ∈ vs, v.oneCell' = true) →
    (∀ (i : Nat) (a : AV) (v : Value), as[i]? = some a → vs[i]? = some v → Rd w S ρ n a v) →
    ∀ k o, off = o + k → CellsRd w S ρ n (setCells cells off as) ((vs.zipIdx k).foldl (fun cs (c, j) => cs.setIfInBounds (o + j) c) cs)
  | [], [], off, cells, cs, h, _, _, _, k, o, _ => h
  | [], _ :: _, _, _, _, _, hl, _, _, _, _, _ => by simp at hl
  | _ :: _, [], _, _, _, _, hl, _, _, _, _, _ => by simp at hl
  | a :: as, v :: vs, off, cells, cs, h, hl, h1, hr, k, o, he => by
    subst he
    have ih := CellsRd.setCells as vs (o + k + 1) (cells.set (o + k) a) (cs.setIfInBounds (o + k) v) (h.set (o + k) (hr 0 a v rfl rfl) (h1 v (by simp))) (by simpa using hl) (fun u hu => h1 u (by simp [hu]))
      (fun i x u hx hu => hr (i + 1) x u (by simpa using hx) (by simpa using hu)) (k + 1) o (by omega)
    simpa [Rf.setCells, List.zipIdx_cons] using ih

theorem setCells_length : ∀ (as : List AV) (off : Nat) (cells : List AV), (setCells cells off as).length = cells.length
  | [], _, _ => rfl
  | a :: as, off, cells => by simp [setCells, setCells_length as]

/-! ### The type table -/
def zMatch : AV → Value → Bool
  | .int k n, .int k' n' => decide (k = k') && decide (n = n')
  | .bool b, .bool c => b == c
  | .str s, .string t => s.data.isEmpty && t.data.isEmpty
  | .sl _ _ [], .slice none 0 0 => true
  | _, _ => false
def zAll : List AV → List Value → Bool
  | [], [] => true
  | a :: as, v :: vs => zMatch a v && zAll as vs
  | _, _ => false
def isAggD : TypeDesc → Bool
  | .struct _ => true
  | .array _ _ => true
  | _ => false
def kOK : TK → TypeDesc → Bool
  | .int k, .int k' => decide (k = k')
  | .bool, .bool => true
  | .str, .string => true
  | .slice e, .slice e' => e == e'
  | .struct, .struct _ => true
  | .other, d => !isAggD d
  | _, _ => false
def fOne (P : Program) (x : Nat × Nat × Bool) (f : Field) : Bool :=
  match P.info? f.type, P.underlying f.type with
  | some i, some d => f.offset == x.1 && i.size == x.2.1 && decide (0 < x.2.1) && (isAggD d == x.2.2) && (x.2.2 || x.2.1 == 1)
  | _, _ => false
def fOK (P : Program) : List (Nat × Nat × Bool) → List Field → Bool
  | [], [] => true
  | x :: fs, f :: gs => fOne P x f && fOK P fs gs
  | _, _ => false
def qOne (z : AV) (d : TypeDesc) : Bool :=
  match z, d with
  | .int _ _, .int _ => true
  | .str _, .string => true
  | .bool _, .bool => true
  | _, _ => false
def qOK (P : Program) : Nat → List AV → List Field → Bool
  | _, [], [] => true
  | j, z :: zs, f :: gs => (match P.underlying f.type with | some d => qOne z d | none => false) && f.offset == j && f.name != "_" && qOK P (j + 1) zs gs
  | _, _, _ => false
def tiOK (P : Program) (t : TypeId) (i : TI) : Bool :=
  match P.info? t, P.underlying t with
  | some inf, some d => inf.size == i.size && inf.bytes == i.bytes && decide (0 < i.size) && decide (0 < i.bytes) && decide (i.bytes ≤ 1048576) && decide (i.size ≤ 1000) && kOK i.kind d &&
      (match inf.zero with | some z => zAll i.zero z.cells.toList && (z.oneCell' != isAggD d) | none => false) && (i.zero.length == i.size) && (isAggD d || i.size == 1) &&
      (match d with | .struct fs => fOK P i.fields fs.toList | _ => i.fields.isEmpty) &&
      (!i.eq || (match d with | .struct fs => qOK P 0 i.zero fs.toList && !P.stoodInHeld t && !P.eqGuardType P.depth t | _ => false))
  | _, _ => false

structure TF (P : Program) (t : TypeId) (i : TI) (inf : TypeInfo) (d : TypeDesc) (z : Value) : Prop where
  info : P.info? t = some inf
  und : P.underlying t = some d
  size : inf.size = i.size
  bytes : inf.bytes = i.bytes
  pos : 0 < i.size
  bpos : 0 < i.bytes
  bmax : i.bytes ≤ 1048576
  smax : i.size ≤ 1000
  kind : kOK i.kind d = true
  zero : inf.zero = some z
  zall : zAll i.zero z.cells.toList = true
  zagg : z.oneCell' = !isAggD d
  zlen : i.zero.length = i.size
  one : isAggD d = false → i.size = 1
  flds : ∀ x, x < i.fields.length → ∃ fs f, d = .struct fs ∧ fs[x]? = some f ∧ fOne P (i.fields.getD x (0, 0, false)) f = true
  fall : ∀ fs, d = .struct fs → fOK P i.fields fs.toList = true
  eq : i.eq = true → ∃ fs, d = .struct fs ∧ qOK P 0 i.zero fs.toList = true ∧ P.stoodInHeld t = false ∧ P.eqGuardType P.depth t = false

theorem fOK_get {P : Program} : ∀ {fs : List (Nat × Nat × Bool)} {gs : List Field}, fOK P fs gs = true → ∀ x, x < fs.length → ∃ f, gs[x]? = some f ∧ fOne P (fs.getD x (0, 0, false)) f = true
  | [], [], _, x, hx => by simp at hx
  | [], _ :: _, h, _, _ => by simp [fOK] at h
  | _ :: _, [], h, _, _ => by simp [fOK] at h
  | y :: fs, g :: gs, h, x, hx => by
    simp only [fOK, Bool.and_eq_true] at h
    cases x with
    | zero => exact ⟨g, rfl, by simpa using h.1⟩
    | succ x =>
      obtain ⟨f, h1, h2⟩ := fOK_get h.2 x (by simpa using hx)
      exact ⟨f, by simpa using h1, by simpa using h2⟩

theorem tiOK_facts {P : Program} {t : TypeId} {i : TI} (h : tiOK P t i = true) : ∃ inf d z, TF P t i inf d z := by
  unfold tiOK at h
  split at h
  · rename_i inf d hi hd
    cases hz : inf.zero with
    | none => simp [hz] at h
    | some z =>
      simp only [hz, Bool.and_eq_true, beq_iff_eq, decide_eq_true_eq] at h
      obtain ⟨⟨⟨⟨⟨⟨⟨⟨⟨⟨⟨h1, h2⟩, h3⟩, h4⟩, h4b⟩, h4c⟩, h5⟩, h6, h7⟩, h8⟩, h9⟩, h10⟩, h11⟩ := h
      refine ⟨inf, d, z, hi, hd, h1, h2, h3, h4, h4b, h4c, h5, hz, h6, ?_, h8, ?_, ?_, ?_, ?_⟩
      · revert h7; cases z.oneCell' <;> cases isAggD d <;> simp
      · intro hd'
        simpa [hd'] using h9
      · intro x hx
        cases d <;> first
          | (simp at h10; simp [h10] at hx; done)
          | (rename_i fs; obtain ⟨f, k1, k2⟩ := fOK_get h10 x hx; exact ⟨fs, f, rfl, by simpa using k1, k2⟩)
      · intro fs hfs
        subst hfs
        exact h10
      · intro he
        simp only [he, Bool.not_true, Bool.false_or] at h11
        cases d <;> first
          | (simp at h11; done)
          | (rename_i fs; simp only [Bool.and_eq_true, Bool.not_eq_true'] at h11; exact ⟨fs, rfl, h11.1.1, h11.1.2, h11.2⟩)
  · simp at h

theorem zMatch_rd {a : AV} {v : Value} (h : zMatch a v = true) (w : World) (S : Nat → Prop) (ρ : Reg) (n : Nat) : Rd w S ρ n a v ∧ v.oneCell' = true ∧ Rf.closed1 a = true := by
  unfold zMatch at h
  split at h
  · simp at h; obtain ⟨rfl, rfl⟩ := h; exact ⟨.int _ _ _, rfl, rfl⟩
  · simp at h; subst h; exact ⟨.bool _ _, rfl, rfl⟩
  · rename_i s t
    simp at h
    obtain ⟨h1, h2⟩ := h
    have : s = t := ByteArray.ext (by rw [h1, h2])
    subst this
    exact ⟨.str _ _, rfl, rfl⟩
  · exact ⟨.sl _ _ _ [] none 0 0 (fun _ _ => default) rfl (Nat.le_refl _) (by decide) (fun _ => rfl) (by simp) (by intro i k hi; omega) (by intro h; omega) (by simp), rfl, rfl⟩
  · cases h
theorem zAll_rd : ∀ {as : List AV} {vs : List Value}, zAll as vs = true → vs.length = as.length ∧ ∀ (w : World) (S : Nat → Prop) (ρ : Reg) (n i : Nat) (a : AV) (v : Value), as[i]? = some a → vs[i]? = some v → Rd w S ρ n a v ∧ v.oneCell' = true
  | [], [], _ => ⟨rfl, by simp⟩
  | [], _ :: _, h => by simp [zAll] at h
  | _ :: _, [], h => by simp [zAll] at h
  | a :: as, v :: vs, h => by
    simp only [zAll, Bool.and_eq_true] at h
    obtain ⟨h1, h2⟩ := zAll_rd h.2
    refine ⟨by simp [h1], fun w S ρ n i x u hx hu => ?_⟩
    cases i with
    | zero => simp at hx hu; subst hx; subst hu; exact ⟨(zMatch_rd h.1 w S ρ n).1, (zMatch_rd h.1 w S ρ n).2.1⟩
    | succ i => exact h2 w S ρ n i x u (by simpa using hx) (by simpa using hu)

/-- The cells of the zero. -/
theorem TF.zcells {P : Program} {t : TypeId} {i : TI} {inf : TypeInfo} {d : TypeDesc} {z : Value} (h : TF P t i inf d z) (w : World) (S : Nat → Prop) (ρ : Reg) (n : Nat) : CellsRd w S ρ n i.zero z.cells ∧ z.cells.size = i.size := by
  obtain ⟨h1, h2⟩ := zAll_rd h.zall
  have hs : z.cells.size = i.zero.length := by simpa using h1
  refine ⟨⟨hs, ?_, fun j a v ha hv => (h2 w S ρ n j a v ha (by simpa using hv)).1⟩, by rw [hs, h.zlen]⟩
  intro v hv
  obtain ⟨j, hj, rfl⟩ := Array.mem_iff_getElem.1 hv
  have hj2 : j < i.zero.length := by omega
  exact (h2 w S ρ n j _ _ (List.getElem?_eq_getElem hj2) (by simp [hj])).2

theorem CellsRd.nfs {w : World} {S : Nat → Prop} {ρ : Reg} {n : Nat} {cells : List AV} {cs : Array Value} (h : CellsRd w S ρ n cells cs) : CellsRd w S ρ n (nfs cells) cs := by
  refine ⟨by rw [nfs_length]; exact h.1, h.2.1, fun i a v ha hv => ?_⟩
  rw [nfs_get] at ha
  cases hc : cells[i]? with
  | none => simp [hc] at ha
  | some b => simp [hc] at ha; subst ha; exact (h.2.2 i b v hc hv).nf

theorem closedAll_get : ∀ {cs : List AV}, closedAll cs = true → ∀ (i : Nat) (a : AV), cs[i]? = some a → Rf.closed1 a = true
  | [], _, i, a, h => by simp at h
  | c :: cs, hc, i, a, h => by
    obtain ⟨h1, h2⟩ := andB_true hc
    cases i with
    | zero => simp at h; subst h; exact h1
    | succ i => exact closedAll_get h2 i a (by simpa using h)
theorem CellsRd.closed {w : World} {S : Nat → Prop} {ρ : Reg} {n : Nat} {cells : List AV} {cs : Array Value} (h : CellsRd w S ρ n cells cs) (hc : closedAll cells = true) : CellsRd w S ρ 0 cells cs :=
  ⟨h.1, h.2.1, fun i a v ha hv => (h.2.2 i a v ha hv).closed1 (closedAll_get hc i a ha)⟩
theorem CellsRd.rows {w : World} {S : Nat → Prop} {ρ : Reg} {n sz : Nat} {cells : List AV} {cs : Array Value} (h : CellsRd w S ρ n cells cs) (hs : cells.length = sz) : RowsRd w S ρ n sz [cells] cs.toList :=
  RowsRd.one_row (by simpa using h.1) hs (fun v hv => h.2.1 v (by simpa using hv)) (fun i a v ha hv => h.2.2 i a v ha (by simpa using hv))

def TEok (P : Program) (te : TE) : Prop := ∀ t i, te t = some i → tiOK P t i = true
theorem TEok.get {P : Program} {te : TE} (h : TEok P te) {t : TypeId} {i : TI} (ht : te t = some i) : ∃ inf d z, TF P t i inf d z := tiOK_facts (h t i ht)

section
variable {P : Program} {t : TypeId} {i : TI} {inf : TypeInfo} {d : TypeDesc} {z : Value}
theorem TF.run_size (h : TF P t i inf d z) (w : World) : (sizeOf t).run P w = .ok i.size w := by simp [sizeOf, typeInfo, h.info, h.size]
theorem TF.run_zero (h : TF P t i inf d z) (w : World) : (zeroValue t).run P w = .ok z w := by simp [zeroValue, typeInfo, h.info, h.zero]
theorem TF.run_isAgg (h : TF P t i inf d z) (w : World) : (isAgg t).run P w = .ok (isAggD d) w := by
  unfold isAgg
  rw [Sem.run_bind, run_underlying h.und]
  cases d <;> rfl
theorem TF.kagg (h : TF P t i inf d z) : i.kind.isAgg = isAggD d := by
  have := h.kind
  unfold kOK at this
  split at this <;> simp_all [TK.isAgg, isAggD]
theorem TF.kint (h : TF P t i inf d z) {k : IntKind} (hk : i.kind = .int k) : d = .int k := by
  have := h.kind
  rw [hk] at this
  cases d <;> simp [kOK] at this
  subst this; rfl
theorem TF.kbool (h : TF P t i inf d z) (hk : i.kind = .bool) : d = .bool := by
  have := h.kind
  rw [hk] at this
  cases d <;> simp [kOK] at this
  rfl
theorem TF.kstr (h : TF P t i inf d z) (hk : i.kind = .str) : d = .string := by
  have := h.kind
  rw [hk] at this
  cases d <;> simp [kOK] at this
  rfl
theorem TF.kslice (h : TF P t i inf d z) {e : TypeId} (hk : i.kind = .slice e) : d = .slice e := by
  have := h.kind
  rw [hk] at this
  cases d <;> simp [kOK] at this
  subst this; rfl
end

end Go.Rf
