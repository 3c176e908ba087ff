/-
  THE SYMBOLIC EXECUTOR, part 11: append, copy, clear.
-/
import Derived.Test.YtdojencjbmahpaaGreatDoorRfA
set_option linter.unusedVariables false
set_option linter.unusedSimpArgs false
namespace Go.Rf

section
variable {P : Program} {w : World} {S : Nat → Prop} {ρ : Reg} {H : List Ent}

/-- What append's or copy's argument brings. -/
structure Src (P : Program) (w : World) (S : Nat → Prop) (ρ : Reg) (n esz : Nat) (es : List (List AV)) (v : Value) (vs : List Value) : Prop where
  rows : RowsRd w S ρ n esz es vs
  len : (Builtin.lenOf v).run P w = .ok es.length w
  first : ∀ w' : World, w'.heap = w.heap → ∀ m, m ≤ es.length → (Builtin.firstCells esz m v).run P w' = .ok (vs.take (m * esz)).toArray w'

theorem first_of_cells {A : Option Addr} {len cap esz : Nat} {vs : List Value} (hl : vs.length = len * esz) (h : ∀ (j : Nat) (v : Value), vs[j]? = some v → ∃ a, A = some a ∧ w.cell? (a.add j) = some v) (w' : World) (hw : w'.heap = w.heap) (m : Nat) (hm : m ≤ len) :
    (Builtin.firstCells esz m (.slice A len cap)).run P w' = .ok (vs.take (m * esz)).toArray w' := by
  have hle : m * esz ≤ vs.length := by rw [hl]; exact Nat.mul_le_mul_right _ hm
  cases A with
  | none =>
    have : vs = [] := by
      cases vs with
      | nil => rfl
      | cons v vs => obtain ⟨a, h1, _⟩ := h 0 v rfl; cases h1
    subst this
    rw [run_firstCells_none]; simp
  | some a =>
    refine run_firstCells_some w' esz m a len cap (vs.take (m * esz)) (by simp; omega) ?_
    intro j v hv
    rw [List.getElem?_take] at hv
    split at hv
    · obtain ⟨a', h1, h2⟩ := h j v hv
      cases h1
      rw [← h2]
      simp [World.cell?, hw]
    · cases hv

theorem fits_some {sz esz : Nat} {es : List (List AV)} (h : fits sz esz es = true) : es = [] ∨ sz = esz := by
  cases es with
  | nil => exact .inl rfl
  | cons => exact .inr (eqb_eq h)

theorem contents_src (hm : RH w S ρ H) {a : AV} {u : Value} (hu : Rd w S ρ H.length a u) {k : Cont} (hk : contents H a = some k) (hc : condK k.c True) {esz : Nat} (hf : fits k.sz esz k.es = true) :
    ∃ vs, Src P w S ρ (if k.cl then 0 else H.length) esz k.es u vs := by
  unfold contents at hk
  split at hk
  · rename_i sz fr es
    cases hk
    cases hu with
    | sl _ _ _ _ A len cap cell hl hc' hx hfr hsz hcell hA hr =>
      simp only at hf ⊢
      obtain ⟨vs, h1, h2⟩ := rows_of_sl hl hsz hcell hr
      have hlen : (Builtin.lenOf (.slice A len cap)).run P w = .ok es.length w := by rw [hl]; rfl
      rcases fits_some hf with h0 | h0
      · subst h0
        refine ⟨[], RowsRd.nil _ _ _ _ _, hlen, fun w' hw m hm => ?_⟩
        have hm0 : m = 0 := by simpa using hm
        subst hm0
        have : len = 0 := by simpa using hl.symm
        subst this
        exact first_of_cells (P := P) (A := A) (cap := cap) (esz := esz) (vs := []) (len := 0) (by simp) (by simp) w' hw 0 (Nat.le_refl _)
      · subst h0
        refine ⟨vs, h1, hlen, fun w' hw m hm => ?_⟩
        rw [hl] at hm
        exact first_of_cells (P := P) (by rw [h1.len, hl]) (fun j v hv => by obtain ⟨a, e1, _, e3⟩ := h2 j v hv; exact ⟨a, e1, e3⟩) w' hw m hm
  · rename_i q ver len
    unfold contO at hk
    split at hk
    · rename_i cl v sz cap es hq
      cases hk
      simp only [condK] at hc
      obtain ⟨⟨rfl, rfl⟩, _⟩ := hc
      simp only at hf ⊢
      have hent := hm.ent q _ (getD_some hq (by simp))
      cases hu with
      | own _ _ _ _ A cap' hp hver hcp hA hr =>
        obtain ⟨k1, k2⟩ := hr hent.1.symm
        have hlen : (Builtin.lenOf (.slice A es.length cap')).run P w = .ok es.length w := rfl
        rcases fits_some hf with h0 | h0
        · subst h0
          refine ⟨[], RowsRd.nil _ _ _ _ _, hlen, fun w' hw m hm => ?_⟩
          have hm0 : m = 0 := by simpa using hm
          subst hm0
          exact first_of_cells (P := P) (A := A) (cap := cap') (esz := esz) (vs := []) (len := 0) (by simp) (by simp) w' hw 0 (Nat.le_refl _)
        · subst h0
          rcases Nat.eq_zero_or_pos (ρ q).cap with hz | hz
          · have : es = [] := List.eq_nil_of_length_eq_zero (by have := hent.2.2.2.2.1; omega)
            subst this
            refine ⟨[], RowsRd.nil _ _ _ _ _, hlen, fun w' hw m hm => ?_⟩
            have hm0 : m = 0 := by simpa using hm
            subst hm0
            exact first_of_cells (P := P) (A := A) (cap := cap') (esz := sz) (vs := []) (len := 0) (by simp) (by simp) w' hw 0 (Nat.le_refl _)
          · obtain ⟨cs, ty, c1, c2, c3, c4⟩ := hent.rows hz
            refine ⟨_, c4, hlen, fun w' hw m hm => ?_⟩
            refine first_of_cells (P := P) c4.len (fun j v hv => ⟨_, k2 (by omega), ?_⟩) w' hw m hm
            rw [List.getElem?_take] at hv
            split at hv
            · rw [Addr.add_lit, cell_of_row w _ _ cs ty _ c1]; simpa using hv
            · cases hv
    · cases hk
  · rename_i q ver off len
    unfold contS at hk
    split at hk
    · rename_i cl v sz cap es hq
      cases hk
      simp only [condK] at hc
      obtain ⟨⟨rfl, hle⟩, _⟩ := hc
      simp only at hf ⊢
      have hent := hm.ent q _ (getD_some hq (by simp))
      have hlen2 : ((es.drop off).take len).length = len := by simp; omega
      cases hu with
      | osub _ _ _ _ _ A cap' hp hver hcp hA hr =>
        obtain ⟨k1, k2⟩ := hr hent.1.symm
        have hlen : (Builtin.lenOf (.slice A len cap')).run P w = .ok ((es.drop off).take len).length w := by rw [hlen2]; rfl
        rcases fits_some hf with h0 | h0
        · rw [h0] at hlen hlen2 ⊢
          refine ⟨[], RowsRd.nil _ _ _ _ _, hlen, fun w' hw m hm => ?_⟩
          have hm0 : m = 0 := by simpa using hm
          subst hm0
          exact first_of_cells (P := P) (A := A) (cap := cap') (esz := esz) (vs := []) (len := len) (by simp [← hlen2]) (by simp) w' hw 0 (Nat.zero_le _)
        · subst h0
          rcases Nat.eq_zero_or_pos len with hz | hz
          · subst hz
            refine ⟨[], by simpa using RowsRd.nil _ _ _ _ _, hlen, fun w' hw m hm => ?_⟩
            have hm0 : m = 0 := by simpa using hm
            subst hm0
            exact first_of_cells (P := P) (A := A) (cap := cap') (esz := sz) (vs := []) (len := 0) (by simp) (by simp) w' hw 0 (Nat.le_refl _)
          · have hz' : 0 < (ρ q).cap := by omega
            obtain ⟨cs, ty, c1, c2, c3, c4⟩ := hent.rows hz'
            have c5 := (c4.drop off).take len
            refine ⟨_, c5, hlen, fun w' hw m hm => ?_⟩
            rw [hlen2] at hm
            refine first_of_cells (P := P) (by rw [c5.len, hlen2]) (fun j v hv => ⟨_, k2 (by omega), ?_⟩) w' hw m hm
            rw [List.getElem?_take] at hv
            split at hv
            · rw [List.getElem?_drop, List.getElem?_take] at hv
              split at hv
              · rw [hent.2.2.1, Addr.add_lit, cell_of_row w _ _ cs ty _ c1]; simpa using hv
              · cases hv
            · cases hv
    · cases hk
  · rename_i s
    cases hk
    cases hu
    simp only at hf ⊢
    have hl : (bytesAV s).length = s.size := by unfold bytesAV; rw [List.length_map, Array.length_toList]; rfl
    have hlen : (Builtin.lenOf (.string s)).run P w = .ok (bytesAV s).length w := by rw [hl]; rfl
    have hfirst : ∀ (esz : Nat), esz = 1 ∨ s.size = 0 → ∀ w' : World, ∀ m, m ≤ s.size → (Builtin.firstCells esz m (.string s)).run P w' = .ok ((s.data.toList.map fun b => Value.int .u8 (b.toNat : Int)).take (m * 1)).toArray w' := by
      intro esz he w' m hm
      have : ((s.extract 0 m).data.map fun b => Value.int IntKind.u8 (b.toNat : Int)) = ((s.data.toList.map fun b => Value.int .u8 (b.toNat : Int)).take (m * 1)).toArray := by
        apply Array.ext'
        simp [List.extract_eq_take_drop, List.map_take]
      show Result.ok _ w' = _
      rw [this]
    rcases fits_some hf with h0 | h0
    · have hs0 : s.size = 0 := by rw [← hl, h0]; rfl
      rw [h0] at hlen ⊢
      refine ⟨[], RowsRd.nil _ _ _ _ _, hlen, fun w' hw m hm => ?_⟩
      have hm0 : m = 0 := by simpa using hm
      subst hm0
      have := hfirst esz (.inr hs0) w' 0 (Nat.zero_le _)
      simpa using this
    · subst h0
      exact ⟨_, bytesAV_rows s _, hlen, fun w' _ m hm => hfirst 1 (.inl rfl) w' m (by rw [← hl]; exact hm)⟩
  · cases hk

/-- Zeros, as many as a number says. -/
theorem zeros_rows {t : TypeId} {i : TI} {inf : TypeInfo} {d : TypeDesc} {z : Value} (hf : TF P t i inf d z) (n m : Nat) : RowsRd w S ρ n i.size (List.replicate m (nfs i.zero)) (Builtin.zeroCells z.cells m).toList := by
  have := hf.zero_rows w S ρ n m
  have hs := (hf.zcells w S ρ n).2
  have e : Builtin.zeroCells z.cells m = madeCells z.cells (m * i.size) := by simp [Builtin.zeroCells, madeCells, hs]
  rw [e]
  exact this

/-- append's second argument: a number, or a slice or string. -/
inductive AppArg (P : Program) (w : World) (e : TypeId) (size bytes : Nat) (z : Value) (u : TypeId) (x : Value) (n : Nat) (news : List Value) : Prop
  | zeros (k : IntKind) (hu : P.underlying u = some (.int k)) (hx : x = .int .i64 (n : Int)) (hb : n * bytes ≤ 140737488355328) (hnews : news = (Builtin.zeroCells z.cells n).toList)
  | plain (hu : (∃ e2, P.underlying u = some (.slice e2)) ∨ P.underlying u = some .string) (hl : (Builtin.lenOf x).run P w = .ok n w) (hf : ∀ w' : World, w'.heap = w.heap → (Builtin.firstCells size n x).run P w' = .ok news.toArray w')

theorem append_grow {t u ty e : TypeId} {i : TypeInfo} {z : Value} (ht : P.underlying t = some (.slice e)) (hi : P.info? e = some i) (hz : i.zero = some z) (hbp : 0 < i.bytes) (hsz : 0 < i.size) (hzs : z.cells.size = i.size)
    {base : Option Addr} {sLen sCap : Nat} {olds : List Value} (hold : ∀ w' : World, w'.heap = w.heap → (Builtin.firstCells i.size sLen (.slice base sLen sCap)).run P w' = .ok olds.toArray w')
    {x : Value} {n : Nat} {news : List Value} (hx : AppArg P w e i.size i.bytes z u x n news) (hg : sCap < sLen + n) (hfit : (sLen + n) * i.bytes ≤ 140737488355328) :
    (Builtin.append_ #[t, u] ty #[.slice base sLen sCap, x]).run P w =
      .ok (.slice (some ⟨w.heap.size, 0, none⟩) (sLen + n) (grownCap w (sLen + n) sCap e))
        (w.drew.alloc (.cells (olds.toArray ++ news.toArray ++ Builtin.zeroCells z.cells (grownCap w (sLen + n) sCap e - (sLen + n))) e)) := by
  have hn : ¬ (sLen + n ≤ sCap) := by omega
  have hle : sLen + n ≤ 140737488355328 := by
    have : (sLen + n) * 1 ≤ (sLen + n) * i.bytes := Nat.mul_le_mul_left _ hbp
    omega
  have h63' : ¬ (9223372036854775807 < ((sLen : Int) + (n : Int))) := by omega
  have h48 := growslice_fits hg hfit
  have h48' : ¬ (281474976710656 < Builtin.nextslicecap (sLen + n) sCap * i.bytes) := by omega
  have hfo := hold w.drew rfl
  cases hx with
  | zeros k hu hx hb hnews =>
    subst hx
    have hm : n ≤ 140737488355328 := by
      have : n * 1 ≤ n * i.bytes := Nat.mul_le_mul_left _ hbp
      omega
    have wm : IntKind.i64.wrap (n : Int) = n := by rw [IntKind.wrap_i64]; omega
    have n1 : ¬ (n : Int) < 0 := by omega
    have n2 : ¬ (281474976710656 < (n : Int) * (i.bytes : Int)) := by
      have : (n : Int) * (i.bytes : Int) = ((n * i.bytes : Nat) : Int) := by push_cast; rfl
      omega
    have hs : ¬ i.size = 0 := by omega
    subst hnews
    by_cases hn0 : n = 0
    · have hz0 : Builtin.zeroCells z.cells 0 = #[] := by simp [Builtin.zeroCells, Array.range_zero']
      subst hn0
      simp only [Nat.add_zero] at hn h48' hg
      have h63'' : ¬ 9223372036854775807 < (sLen : Int) := by omega
      have wm0 : IntKind.i64.wrap 0 = 0 := wm
      simp [Builtin.append_, run_underlying ht, run_underlying hu, sizeOf, typeInfo, zeroValue, hi, hz, asInt, asIntOf, wm0, hn, h63'', h48', Question.forced, hfo, newRow, grownCap, hz0]
    · have n3 : ¬ n ≤ 0 := by omega
      simp [Builtin.append_, run_underlying ht, run_underlying hu, sizeOf, typeInfo, zeroValue, hi, hz, asInt, asIntOf, wm, n1, n2, hn, h63', h48', Question.forced, hfo, newRow, grownCap, hs, hn0, Nat.mul_eq_zero]
  | plain hu hl hf =>
    have hfn := hf w.drew rfl
    rcases hu with ⟨e2, hu⟩ | hu
    all_goals
      simp [Builtin.append_, run_underlying ht, run_underlying hu, sizeOf, typeInfo, zeroValue, hi, hz, hl, hn, h63', h48', Question.forced, hfo, hfn, newRow, grownCap]
      congr 2
      apply Array.ext'
      simp [List.append_assoc]

theorem append_room {t u ty e : TypeId} {i : TypeInfo} {z : Value} (ht : P.underlying t = some (.slice e)) (hi : P.info? e = some i) (hz : i.zero = some z) (hbp : 0 < i.bytes) (hsz : 0 < i.size) (hzs : z.cells.size = i.size)
    {base : Option Addr} {sLen sCap : Nat} {x : Value} {n : Nat} {news : List Value} (hx : AppArg P w e i.size i.bytes z u x n news) (hg : sLen + n ≤ sCap) {w' : World}
    (hst : match base with | some a => (storeCells (a.add (sLen * i.size)) news).run P w = .ok () w' | none => w' = w) :
    (Builtin.append_ #[t, u] ty #[.slice base sLen sCap, x]).run P w = .ok (.slice base (sLen + n) sCap) w' := by
  cases hx with
  | zeros k hu hx hb hnews =>
    subst hx
    have hm : n ≤ 140737488355328 := by
      have : n * 1 ≤ n * i.bytes := Nat.mul_le_mul_left _ hbp
      omega
    have wm : IntKind.i64.wrap (n : Int) = n := by rw [IntKind.wrap_i64]; omega
    have n1 : ¬ (n : Int) < 0 := by omega
    have n2 : ¬ (281474976710656 < (n : Int) * (i.bytes : Int)) := by
      have : (n : Int) * (i.bytes : Int) = ((n * i.bytes : Nat) : Int) := by push_cast; rfl
      omega
    have hs : ¬ i.size = 0 := by omega
    subst hnews
    have hzv : ∀ w, (zeroValue e).run P w = .ok z w := fun w => by simp [zeroValue, typeInfo, hi, hz]
    by_cases hn0 : n = 0
    · have hz0 : Builtin.zeroCells z.cells 0 = #[] := by simp [Builtin.zeroCells, Array.range_zero']
      subst hn0
      have wm0 : IntKind.i64.wrap 0 = 0 := wm
      simp only [Nat.add_zero] at hg
      rw [hz0] at hst
      cases base with
      | none =>
        simp only at hst
        subst hst
        simp [Builtin.append_, run_underlying ht, run_underlying hu, sizeOf, typeInfo, hi, asInt, asIntOf, wm0, hg]
      | some a =>
        simp only at hst
        simp [Builtin.append_, run_underlying ht, run_underlying hu, sizeOf, typeInfo, hi, asInt, asIntOf, wm0, hg, hst]
    · have n3 : ¬ n * i.size = 0 := by simp [Nat.mul_eq_zero, hn0, hs]
      cases base with
      | none =>
        simp only at hst
        subst hst
        simp [Builtin.append_, run_underlying ht, run_underlying hu, sizeOf, typeInfo, hi, asInt, asIntOf, wm, n1, n2, hg, hn0, hs, hzv]
      | some a =>
        simp only at hst
        simp [Builtin.append_, run_underlying ht, run_underlying hu, sizeOf, typeInfo, hi, asInt, asIntOf, wm, n1, n2, hg, hn0, hs, hzv, hst]
        exact fun h => absurd h n3
  | plain hu hl hf =>
    have hfn := hf w rfl
    cases base with
    | none =>
      simp only at hst
      subst hst
      rcases hu with ⟨e2, hu⟩ | hu
      all_goals simp [Builtin.append_, run_underlying ht, run_underlying hu, sizeOf, typeInfo, hi, hl, hg, hfn]
    | some a =>
      simp only at hst
      rcases hu with ⟨e2, hu⟩ | hu
      all_goals simp [Builtin.append_, run_underlying ht, run_underlying hu, sizeOf, typeInfo, hi, hl, hg, hfn, hst]

end
end Go.Rf
