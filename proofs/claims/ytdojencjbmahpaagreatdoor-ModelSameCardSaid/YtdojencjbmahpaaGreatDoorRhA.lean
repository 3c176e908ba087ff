/-
  RUNNING, part 1: a result as data, also where arrays lie within arrays; a function that runs on data where it can, and else on the caller's memory.
-/
import Derived.Test.YtdojencjbmahpaaGreatDoorRgC
set_option linter.unusedVariables false
set_option linter.unusedSimpArgs false
namespace Go.Rf

def mapC (f : AV → Option AV) : List AV → Option (List AV)
  | [] => some []
  | v :: vs => consO (f v) (mapC f vs)
def consRow : Option (List AV) → Option (List (List AV)) → Option (List (List AV))
  | some e, some es => some (e :: es)
  | _, _ => none
def mapRows (f : AV → Option AV) : List (List AV) → Option (List (List AV))
  | [] => some []
  | e :: es => consRow (mapC f e) (mapRows f es)
def rowsO (f : AV → Option AV) : Bool → List (List AV) → Option (List (List AV))
  | true, es => some es
  | false, es => mapRows f es
def slO (sz : Nat) : Option (List (List AV)) → Option AV
  | some es => some (.sl sz false es)
  | none => none
def deepArr (f : AV → Option AV) (ver len : Nat) : Ent → Option AV
  | .arr cl v sz _ es => whenB (andB (Nat.beq v ver) (Nat.beq len es.length)) (slO sz (rowsO f cl es))
  | _ => none
def deepSub (f : AV → Option AV) (ver off len : Nat) : Ent → Option AV
  | .arr cl v sz _ es => whenB (andB (Nat.beq v ver) (Nat.ble (off + len) es.length)) (slO sz (rowsO f cl ((es.drop off).take len)))
  | _ => none
def notAv : Option Nat → Nat → Bool
  | none, _ => true
  | some a, q => !(Nat.beq a q)
def deep1 (f : AV → Option AV) (av : Option Nat) (H : List Ent) : AV → Option AV
  | .int k n => some (.int k n)
  | .bool b => some (.bool b)
  | .str s => some (.str s)
  | .fn g => some (.fn g)
  | .sl sz _ es => some (.sl sz false es)
  | .own q ver len => whenB (notAv av q) (deepArr f ver len (H.getD q .none))
  | .osub q ver off len => whenB (notAv av q) (deepSub f ver off len (H.getD q .none))
  | _ => none
def deepC (av : Option Nat) : Nat → List Ent → AV → Option AV
  | 0, _ => fun _ => none
  | n + 1, H => deep1 (deepC av n H) av H
def aggO : Option (List AV) → Option AV
  | some cs => some (.agg cs)
  | none => none
def tupO : Option (List AV) → Option AV
  | some cs => some (.tup cs)
  | none => none
def deepV (N : Nat) (H : List Ent) : AV → Option AV
  | .agg cs => aggO (mapC (deepC none N H) cs)
  | v => deepC none N H v
def deepR (N : Nat) (H : List Ent) : AV → Option AV
  | .tup vs => tupO (mapC (deepV N H) vs)
  | v => deepV N H v

section
variable {P : Program} {w : World} {S : Nat → Prop} {ρ : Reg} {H : List Ent}

/-- The blocks of the call's own but for one place's, lent. -/
def lentX (S : Nat → Prop) (ρ : Reg) (H : List Ent) (av : Option Nat) : Nat → Prop := fun k => S k ∨ ∃ p e, H[p]? = some e ∧ notAv av p = true ∧ live ρ p e ∧ (ρ p).blk = k

theorem consO_split {x : Option AV} {xs : Option (List AV)} {ys : List AV} (h : consO x xs = some ys) : ∃ y zs, x = some y ∧ xs = some zs ∧ ys = y :: zs := by
  unfold consO at h
  split at h
  · cases h; exact ⟨_, _, rfl, rfl, rfl⟩
  · cases h
theorem mapC_get {f : AV → Option AV} : ∀ {cs ys : List AV}, mapC f cs = some ys → ys.length = cs.length ∧ ∀ (i : Nat) (y : AV), ys[i]? = some y → ∃ a, cs[i]? = some a ∧ f a = some y
  | [], ys, h => by simp only [mapC, Option.some.injEq] at h; subst h; exact ⟨rfl, by simp⟩
  | c :: cs, ys, h => by
    simp only [mapC] at h
    obtain ⟨y, zs, h1, h2, rfl⟩ := consO_split h
    obtain ⟨k1, k2⟩ := mapC_get h2
    refine ⟨by simp [k1], fun i z hz => ?_⟩
    cases i with
    | zero => simp at hz; subst hz; exact ⟨c, rfl, h1⟩
    | succ i => exact k2 i z (by simpa using hz)
theorem mapRows_get {f : AV → Option AV} : ∀ {es ys : List (List AV)}, mapRows f es = some ys → ys.length = es.length ∧ ∀ (i : Nat) (y : List AV), ys[i]? = some y → ∃ e, es[i]? = some e ∧ mapC f e = some y
  | [], ys, h => by simp only [mapRows, Option.some.injEq] at h; subst h; exact ⟨rfl, by simp⟩
  | e :: es, ys, h => by
    simp only [mapRows] at h
    unfold consRow at h
    split at h
    · rename_i y zs h1 h2
      cases h
      obtain ⟨k1, k2⟩ := mapRows_get h2
      refine ⟨by simp [k1], fun i z hz => ?_⟩
      cases i with
      | zero => simp at hz; subst hz; exact ⟨e, rfl, h1⟩
      | succ i => exact k2 i z (by simpa using hz)
    · cases h

/-- The rows, each cell as data. -/
theorem rows_map {av : Option Nat} {f : AV → Option AV} (hf : ∀ a x v, f a = some x → Rd w S ρ H.length a v → ∀ n, Rd w (lentX S ρ H av) ρ n x v) {sz : Nat} {es ys : List (List AV)} {vs : List Value} (h : RowsRd w S ρ H.length sz es vs) (hm : mapRows f es = some ys) : RowsRd w (lentX S ρ H av) ρ 0 sz ys vs := by
  obtain ⟨k1, k2⟩ := mapRows_get hm
  refine ⟨by rw [h.len, k1], h.one, ?_, ?_⟩
  · intro y hy
    obtain ⟨i, hi⟩ := List.getElem?_of_mem hy
    obtain ⟨e, he, hc⟩ := k2 i y hi
    rw [(mapC_get hc).1]
    exact h.row e (List.mem_of_getElem? he)
  · intro i k y a v hy ha hv
    obtain ⟨e, he, hc⟩ := k2 i y hy
    obtain ⟨b, hb, hfb⟩ := (mapC_get hc).2 k a ha
    exact hf b a v hfb (h.rd i k e b v he hb hv) 0
theorem rows_data {av : Option Nat} {f : AV → Option AV} (hf : ∀ a x v, f a = some x → Rd w S ρ H.length a v → ∀ n, Rd w (lentX S ρ H av) ρ n x v) {sz : Nat} {es ys : List (List AV)} {vs : List Value} {cl : Bool} (h : RowsRd w S ρ (if cl then 0 else H.length) sz es vs) (hm : rowsO f cl es = some ys) : ys.length = es.length ∧ RowsRd w (lentX S ρ H av) ρ 0 sz ys vs := by
  cases cl with
  | true => cases hm; exact ⟨rfl, h.mono (fun _ hk => ⟨.inl hk, rfl⟩) (Nat.le_refl _) (Newer.refl _ _)⟩
  | false => exact ⟨(mapRows_get hm).1, rows_map hf h hm⟩

theorem own_deep {av : Option Nat} {f : AV → Option AV} (hf : ∀ a x v, f a = some x → Rd w S ρ H.length a v → ∀ n, Rd w (lentX S ρ H av) ρ n x v) (hm : RH w S ρ H) {q : Nat} (hav : notAv av q = true) {cl : Bool} {v sz : Nat} {cap : Option Nat} {es ys : List (List AV)} (hq : H[q]? = some (.arr cl v sz cap es)) {A : Option Addr} {off len cap0 : Nat} (hle : off + len ≤ es.length) (hys : rowsO f cl ((es.drop off).take len) = some ys)
    (hcap : len ≤ cap0) (hoc : off + cap0 = (ρ q).cap) (hA : 0 < cap0 → A = some ⟨(ρ q).blk, off * sz, none⟩) (n : Nat) :
    Rd w (lentX S ρ H av) ρ n (.sl sz false ys) (.slice A len cap0) := by
  have hent := hm.ent q _ hq
  have hl : ((es.drop off).take len).length = len := by simp; omega
  have e5 := hent.2.2.2.2.1
  have e6 := hent.2.2.2.2.2.1
  rcases Nat.eq_zero_or_pos len with h0 | h0
  · subst h0
    have : ys = [] := by
      cases cl with
      | true => simpa [rowsO] using hys.symm
      | false => simpa [rowsO, mapRows] using hys.symm
    subst this
    exact .sl _ sz false [] A 0 cap0 (fun _ _ => default) rfl (Nat.zero_le _) (by omega) (by simp) (by simp) (by intro i k hi; omega) (by intro h; omega) (by simp)
  · obtain ⟨cs, ty, k1, k2, k3, k4⟩ := hent.rows (by omega)
    have k5 := ((k4.drop off).take len)
    obtain ⟨hyl, k6⟩ := rows_data hf k5 hys
    have := Rd.sl_of_rows (n := n) false k6 A cap0 (by rw [hyl, hl]; exact hcap) (by omega) (by simp) (fun _ => by
      refine ⟨_, hA (by omega), .inr ⟨q, _, hq, hav, by show 0 < (ρ q).cap; omega, rfl⟩, fun j v hv => ?_⟩
      rw [List.getElem?_take] at hv
      split at hv
      · rw [List.getElem?_drop, List.getElem?_take] at hv
        split at hv
        · rw [Addr.add_lit, cell_of_row w _ _ cs ty _ k1]; simpa using hv
        · cases hv
      · cases hv)
    rwa [hyl, hl] at this

theorem slO_some {sz : Nat} {r : Option (List (List AV))} {x : AV} (h : slO sz r = some x) : ∃ ys, r = some ys ∧ x = .sl sz false ys := by
  cases r with
  | none => cases h
  | some ys => cases h; exact ⟨ys, rfl, rfl⟩

theorem deepC_rd (av : Option Nat) (hm : RH w S ρ H) : ∀ (N : Nat) (a x : AV) (v : Value), deepC av N H a = some x → Rd w S ρ H.length a v → ∀ n, Rd w (lentX S ρ H av) ρ n x v
  | 0, a, x, v, h, _ => by cases h
  | N + 1, a, x, v, h, hv => by
    intro n
    have ih := deepC_rd av hm N
    simp only [deepC] at h
    unfold deep1 at h
    split at h
    · cases h; cases hv; exact .int _ _ _
    · cases h; cases hv; exact .bool _ _
    · cases h; cases hv; exact .str _ _
    · cases h; cases hv; exact .fn _ _
    · cases h
      exact (hv.closed1 rfl).nf.mono (fun _ hk => ⟨.inl hk, rfl⟩) (Nat.zero_le _) (Newer.refl _ _)
    · rename_i q ver len
      obtain ⟨hav, h⟩ := whenB_some h
      cases hq : H.getD q .none with
      | none => rw [hq] at h; cases h
      | var => rw [hq] at h; cases h
      | arr cl v sz cap es =>
        rw [hq] at h
        simp only [deepArr] at h
        obtain ⟨h1, h2⟩ := whenB_some h
        obtain ⟨h3, h4⟩ := andB_true h1
        obtain ⟨ys, h5, rfl⟩ := slO_some h2
        have h3 : v = ver := Nat.eq_of_beq_eq_true h3
        have h4 : len = es.length := Nat.eq_of_beq_eq_true h4
        subst h3; subst h4
        have hget := getD_some hq (by simp)
        cases hv with
        | own _ _ _ _ A cap0 hp hver hcp hA hr =>
          obtain ⟨k1, k2⟩ := hr (hm.ent q _ hget).1.symm
          exact own_deep ih hm hav hget (A := A) (off := 0) (len := es.length) (cap0 := cap0) (by omega) (by simpa using h5) hcp (by omega) (fun h => by rw [k2 h]; simp) n
    · rename_i q ver off len
      obtain ⟨hav, h⟩ := whenB_some h
      cases hq : H.getD q .none with
      | none => rw [hq] at h; cases h
      | var => rw [hq] at h; cases h
      | arr cl v sz cap es =>
        rw [hq] at h
        simp only [deepSub] at h
        obtain ⟨h1, h2⟩ := whenB_some h
        obtain ⟨h3, h4⟩ := andB_true h1
        obtain ⟨ys, h5, rfl⟩ := slO_some h2
        have h3 : v = ver := Nat.eq_of_beq_eq_true h3
        subst h3
        have hget := getD_some hq (by simp)
        have hent := hm.ent q _ hget
        cases hv with
        | osub _ _ _ _ _ A cap0 hp hver hcp hA hr =>
          obtain ⟨k1, k2⟩ := hr hent.1.symm
          exact own_deep ih hm hav hget (Nat.le_of_ble_eq_true h4) h5 hcp k1 (fun h => by rw [k2 h, hent.2.2.1]) n
    · cases h

theorem deepV_rd (hm : RH w S ρ H) (N : Nat) (a x : AV) (v : Value) (h : deepV N H a = some x) (hv : Rd w S ρ H.length a v) (n : Nat) : Rd w (lentX S ρ H none) ρ n x v := by
  unfold deepV at h
  split at h
  · rename_i cs
    cases hc : mapC (deepC none N H) cs with
    | none => rw [hc] at h; cases h
    | some ys =>
      rw [hc] at h
      cases h
      obtain ⟨k1, k2⟩ := mapC_get hc
      cases hv with
      | agg _ _ vs hl h1 hr =>
        refine .agg _ ys vs (by omega) h1 fun i y v hy hv => ?_
        obtain ⟨b, hb, hfb⟩ := k2 i y hy
        exact deepC_rd none hm N b y v hfb (hr i b v hb hv) n
  · exact deepC_rd none hm N a x v h hv n
theorem deepR_rd (hm : RH w S ρ H) (N : Nat) (a x : AV) (v : Value) (h : deepR N H a = some x) (hv : Rd w S ρ H.length a v) (n : Nat) : Rd w (lentX S ρ H none) ρ n x v := by
  unfold deepR at h
  split at h
  · rename_i cs
    cases hc : mapC (deepV N H) cs with
    | none => rw [hc] at h; cases h
    | some ys =>
      rw [hc] at h
      cases h
      obtain ⟨k1, k2⟩ := mapC_get hc
      cases hv with
      | tup _ _ vs hl hr =>
        refine .tup _ ys vs (by omega) fun i y v hy hv => ?_
        obtain ⟨b, hb, hfb⟩ := k2 i y hy
        exact deepV_rd hm N b y v hfb (hr i b v hb hv) n
  · exact deepV_rd hm N a x v h hv n

/-- A function's result as data. -/
def outD (N : Nat) : Option (AV × List Ent) → Option AV
  | some (r, H) => deepR N H r
  | none => none
def datOf (N : Nat) (g : List AV → List Ent → Option (AV × List Ent)) (xs : List AV) : Option (AV × Ent) := noE (outD N (g xs []))

theorem datOf_sound {f : FuncId} {g : List AV → List Ent → Option (AV × List Ent)} (hg : SpecSound P f (XS.spec (.gen g))) (N : Nat) : SpecSound P f (XS.spec (.dat (datOf N g))) := by
  rintro w S ρ xs args Φ hS hargs ⟨x, e, hx, hΦ⟩
  have hno : ∀ (ρ : Reg) k, ¬ Own ρ [] k := by rintro ρ k ⟨p, e, he, _⟩; simp at he
  have hm : RH w S ρ [] := ⟨by simp, by simp, fun k hk => ⟨hS k hk, hno ρ k⟩⟩
  unfold datOf at hx
  cases hr : g xs [] with
  | none => rw [hr] at hx; cases hx
  | some p =>
    obtain ⟨r, H'⟩ := p
    rw [hr] at hx
    simp only [outD] at hx
    cases hd : deepR N H' r with
    | none => rw [hd] at hx; cases hx
    | some y =>
    rw [hd] at hx
    simp only [noE, Option.some.injEq, Prod.mk.injEq] at hx
    obtain ⟨rfl, rfl⟩ := hx
    refine CallRuns.mono (hg w S ρ [] xs args (fun r2 H2 => r2 = r ∧ H2 = H') hm hargs ⟨r, H', hr, rfl, rfl⟩) ?_
    rintro v w' ⟨_, _, S', ρ', ⟨rfl, rfl⟩, h2, h3, h4⟩
    refine ⟨_, .none, lentX S' ρ' _ none, ρ', hΦ, trivial, ⟨by simp [entL], by simp [entL], fun k hk => ⟨?_, hno ρ' k⟩⟩, deepR_rd h2 N _ _ v hd h3 0, ?_⟩
    · rcases hk with hk | hk
      · exact (h2.stab k hk).1
      · obtain ⟨p, e, g1, _, g2, g3⟩ := hk
        exact h2.own_lt ⟨p, e, g1, g2, g3⟩
    · refine ⟨h4.os, h4.tape, h4.output, h4.size, fun k hk _ => h4.keep k hk (hno ρ k), fun k hk => absurd hk (hno ρ' k), fun k hk => .inl (h4.up k hk), ?_, Nat.zero_le _, fun p hp => absurd hp (by omega)⟩
      rintro k (hk | hk)
      · rcases h4.down k hk with h | h | h
        · exact .inl h
        · exact absurd h (hno ρ k)
        · exact .inr (.inr h)
      · obtain ⟨p, e, g1, _, g2, g3⟩ := hk
        rcases h4.own k ⟨p, e, g1, g2, g3⟩ with h | h
        · exact absurd h (hno ρ k)
        · exact .inr (.inr h)

/-- On data where no place is named, else on the caller's memory. -/
def pairH (H : List Ent) : Option (AV × Ent) → Option (AV × List Ent)
  | some (x, e) => some (mvR H.length x, putH H (pushE H.length e))
  | none => none
def hybK (d : List AV → Option (AV × Ent)) (g : List AV → List Ent → Option (AV × List Ent)) (args : List AV) (H : List Ent) : Bool → Rs (List AV) → Option (AV × List Ent)
  | false, some (_, xs) => pairH H (d xs)
  | false, none => none
  | true, _ => g args H
def hyb (d : List AV → Option (AV × Ent)) (g : List AV → List Ent → Option (AV × List Ent)) (args : List AV) (H : List Ent) : Option (AV × List Ent) := hybK d g args H (namesA args) (rslvL H args)

theorem hyb_sound {f : FuncId} {d : List AV → Option (AV × Ent)} {g : List AV → List Ent → Option (AV × List Ent)} (hd : SpecSound P f (XS.spec (.dat d))) (hg : SpecSound P f (XS.spec (.gen g))) : SpecSound P f (XS.spec (.gen (hyb d g))) := by
  rintro w S ρ H args0 args Φ hm hargs ⟨r, H', hr, hΦ⟩
  unfold hyb at hr
  cases hn : namesA args0 with
  | true =>
    rw [hn] at hr
    exact hg w S ρ H args0 args Φ hm hargs ⟨r, H', hr, hΦ⟩
  | false =>
    rw [hn] at hr
    cases hq : rslvL H args0 with
    | none => rw [hq] at hr; cases hr
    | some q =>
      obtain ⟨c, xs⟩ := q
      rw [hq] at hr
      simp only [hybK] at hr
      cases hx : d xs with
      | none => rw [hx] at hr; cases hr
      | some x =>
        obtain ⟨x, e0⟩ := x
        rw [hx] at hr
        simp only [pairH, Option.some.injEq, Prod.mk.injEq] at hr
        obtain ⟨rfl, rfl⟩ := hr
        obtain ⟨i1, i2⟩ := rslvL_plain (w := w) (S := S) (ρ := ρ) _ _ _ hn hq
        have hxs : ArgsRd w S ρ 0 xs args := ⟨by rw [hargs.1, i1], fun i x v hx hv => i2 H.length i x v hx (fun b hb => hargs.2 i b v hb hv)⟩
        refine CallRuns.mono (hd w S ρ xs args (fun r e => r = x ∧ e = e0) (fun k hk => (hm.stab k hk).1) hxs ⟨x, e0, hx, rfl, rfl⟩) ?_
        rintro v w' ⟨r, en, S', ρ', ⟨rfl, rfl⟩, h2, h3, h4, h5⟩
        obtain ⟨ρ'', g1, g2, g3⟩ := after_call hm h2 h3 h4 h5 (Fresh.end H)
        exact ⟨_, _, S', ρ'', hΦ, g1, g3, g2⟩

end
end Go.Rf
