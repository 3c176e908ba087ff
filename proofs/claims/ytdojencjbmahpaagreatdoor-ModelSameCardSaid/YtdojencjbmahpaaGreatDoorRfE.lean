/-
  THE SYMBOLIC EXECUTOR, part 14: calls, and the operations that are no plain evaluation.
-/
import Derived.Test.YtdojencjbmahpaaGreatDoorRfD
set_option linter.unusedVariables false
set_option linter.unusedSimpArgs false
namespace Go.Rf

def entL : Ent → List Ent
  | .none => []
  | .var cs => [.var cs]
  | .arr cl v sz cap es => [.arr cl v sz cap es]
/-- What a contract on data may hand over: nothing, or an array that holds no place. -/
def clEnt : Ent → Prop
  | .none => True
  | .var _ => False
  | .arr cl _ _ _ _ => cl = true

def CallRuns (P : Program) (f : FuncId) (args : Array Value) (w : World) (R : Value → World → Prop) : Prop :=
  ((callFunc f args).run P w = .ok (.enter f args) w ∧ Calls P f args w (fun e w' => match e with | .returned v => R v w' | _ => False)) ∨
  ∃ v w', (callFunc f args).run P w = .ok (.value v) w' ∧ R v w'

theorem CallRuns.mono {P : Program} {f : FuncId} {args : Array Value} {w : World} {R R' : Value → World → Prop} (h : CallRuns P f args w R) (hr : ∀ v w', R v w' → R' v w') : CallRuns P f args w R' := by
  rcases h with ⟨h1, h2⟩ | ⟨v, w', h1, h2⟩
  · exact .inl ⟨h1, Calls.mono h2 (fun e w'' he => by cases e <;> first | exact hr _ _ he | exact he)⟩
  · exact .inr ⟨v, w', h1, hr _ _ h2⟩

def ArgsRd (w : World) (S : Nat → Prop) (ρ : Reg) (n : Nat) (xs : List AV) (args : Array Value) : Prop :=
  args.size = xs.length ∧ ∀ (i : Nat) (x : AV) (v : Value), xs[i]? = some x → args[i]? = some v → Rd w S ρ n x v

/-- What a function under a contract on data comes to. -/
def DPost (w : World) (S : Nat → Prop) (Φ : AV → Ent → Prop) (v : Value) (w' : World) : Prop :=
  ∃ r en S' ρ', Φ r en ∧ clEnt en ∧ RH w' S' ρ' (entL en) ∧ Rd w' S' ρ' (entL en).length r v ∧ Goes w S ρ' [] w' S' ρ' (entL en) 0
def DSound (P : Program) (f : FuncId) (D : DSpec) : Prop :=
  ∀ (w : World) (S : Nat → Prop) (ρ : Reg) (xs : List AV) (args : Array Value) (Φ : AV → Ent → Prop), (∀ k, S k → k < w.heap.size) → ArgsRd w S ρ 0 xs args → D xs Φ → CallRuns P f args w (DPost w S Φ)
def GPost (w : World) (S : Nat → Prop) (ρ : Reg) (H : List Ent) (Φ : AV → List Ent → Prop) (v : Value) (w' : World) : Prop :=
  ∃ r H' S' ρ', Φ r H' ∧ RH w' S' ρ' H' ∧ Rd w' S' ρ' H'.length r v ∧ Goes w S ρ H w' S' ρ' H' H.length
def GSound (P : Program) (f : FuncId) (G : GSpec) : Prop :=
  ∀ (w : World) (S : Nat → Prop) (ρ : Reg) (H : List Ent) (xs : List AV) (args : Array Value) (Φ : AV → List Ent → Prop), RH w S ρ H → ArgsRd w S ρ H.length xs args → G xs H Φ → CallRuns P f args w (GPost w S ρ H Φ)
def SpecSound (P : Program) (f : FuncId) : Spec → Prop
  | .dat D => DSound P f D
  | .gen G => GSound P f G
  | .fn C g => DSound P f (fnD C g)
def Sound (P : Program) (Γ : GE) : Prop := ∀ f sp, Γ f = some sp → SpecSound P f sp

section
variable {P : Program} {w : World} {S : Nat → Prop} {ρ : Reg} {H : List Ent}

theorem Rd.nilAny {n : Nat} {fr fr' : Bool} {sz sz' : Nat} {v : Value} (h : Rd w S ρ n (.sl sz fr []) v) (hf : fr' = true → fr = true) : Rd w S ρ n (.sl sz' fr' []) v := by
  cases h with
  | sl _ _ _ _ A len cap cell hl hc hx hfr hsz hcell hA h =>
    have h0 : len = 0 := by simpa using hl.symm
    subst h0
    exact .sl _ sz' fr' [] A 0 cap cell rfl hc hx (fun h => hfr (hf h)) (by simp) (by intro i k hi; omega) (by intro h; omega) (by simp)

theorem Rd.rty {te : TE} {t : TypeId} {n : Nat} {a : AV} {v : Value} (h : Rd w S ρ n a v) : Rd w S ρ n (rty te t a) v := by
  unfold Rf.rty
  split
  · unfold nilAt
    split <;> exact h.nilAny id
  all_goals exact h

theorem evs_length (te : TE) (T : List AV) : ∀ (args : List Operand) (tys : List TypeId), (evs te T args tys).length = args.length
  | [], _ => rfl
  | x :: xs, [] => congrArg (· + 1) (evs_length te T xs [])
  | x :: xs, t :: ts => congrArg (· + 1) (evs_length te T xs ts)
theorem evs_rd {te : TE} {s : St} {a : Act} (hs : RS w S ρ s a) : ∀ (args : List Operand) (tys : List TypeId) (i : Nat) (x : AV) (v : Value), (evs te s.T args tys)[i]? = some x → (args.map a.eval)[i]? = some v → Rd w S ρ s.H.length x v
  | [], _, i, x, v, h, _ => by simp [evs] at h
  | y :: ys, [], i, x, v, h, k => by
    cases i with
    | zero => simp [evs] at h k; subst h; subst k; exact hs.ev y
    | succ i => exact evs_rd hs ys [] i x v (by simpa [evs] using h) (by simpa using k)
  | y :: ys, t :: ts, i, x, v, h, k => by
    cases i with
    | zero => simp [evs] at h k; subst h; subst k; exact (hs.ev y).rty
    | succ i => exact evs_rd hs ys ts i x v (by simpa [evs] using h) (by simpa using k)
theorem args_rd {te : TE} {s : St} {a : Act} (hs : RS w S ρ s a) (args : Array Operand) (tys : List TypeId) : ArgsRd w S ρ s.H.length (evs te s.T args.toList tys) (args.map a.eval) :=
  ⟨by simp [evs_length], fun i x v hx hv => evs_rd hs args.toList tys i x v hx (by simpa using hv)⟩

/-! ### Values as data -/
/-- The blocks of the call's own, lent for as long as a call lasts. -/
def lent (S : Nat → Prop) (ρ : Reg) (H : List Ent) : Nat → Prop := fun k => S k ∨ Own ρ H k

theorem Rd.lend {n : Nat} {a : AV} {v : Value} (h : Rd w S ρ 0 a v) : Rd w (lent S ρ H) ρ n a v := h.mono (fun _ hk => ⟨.inl hk, rfl⟩) (Nat.zero_le _) (Newer.refl _ _)

theorem own_row (hm : RH w S ρ H) {q : Nat} {cl : Bool} {v sz : Nat} {cap : Option Nat} {es : List (List AV)} (hq : H[q]? = some (.arr cl v sz cap es)) (hcl : cl = true) {A : Option Addr} {off len cap0 : Nat} (hle : off + len ≤ es.length) (hcap : len ≤ cap0) (hoc : off + cap0 = (ρ q).cap) (hA : 0 < cap0 → A = some ⟨(ρ q).blk, off * sz, none⟩) (n : Nat) :
    Rd w (lent S ρ H) ρ n (.sl sz false ((es.drop off).take len)) (.slice A len cap0) := by
  have hent := hm.ent q _ hq
  subst hcl
  have hl : ((es.drop off).take len).length = len := by simp; omega
  have e5 := hent.2.2.2.2.1
  have e6 := hent.2.2.2.2.2.1
  rcases Nat.eq_zero_or_pos len with h0 | h0
  · subst h0
    rw [List.take_zero]
    exact .sl _ sz false [] A 0 cap0 (fun _ _ => default) rfl (Nat.zero_le _) (by omega) (by simp) (by simp) (by intro i k hi; omega) (by intro h; omega) (by simp)
  · obtain ⟨cs, ty, k1, k2, k3, k4⟩ := hent.rows (by omega)
    have k5 := ((k4.drop off).take len)
    have k6 : RowsRd w (lent S ρ H) ρ 0 sz ((es.drop off).take len) (((cs.toList.take (es.length * sz)).drop (off * sz)).take (len * sz)) := k5.mono (fun _ hk => ⟨.inl hk, rfl⟩) (Nat.le_refl _) (Newer.refl _ _)
    have := Rd.sl_of_rows (n := n) false k6 A cap0 (by rw [hl]; exact hcap) (by omega) (by simp) (fun _ => by
      refine ⟨_, hA (by omega), .inr ⟨q, _, hq, by show 0 < (ρ q).cap; omega, rfl⟩, fun j v hv => ?_⟩
      rw [List.getElem?_take] at hv
      split at hv
      · rw [List.getElem?_drop, List.getElem?_take] at hv
        split at hv
        · rw [Addr.add_lit, cell_of_row w _ _ cs ty _ k1]; simpa using hv
        · cases hv
      · cases hv)
    rwa [hl] at this

theorem rslv1_rd (hm : RH w S ρ H) {a x : AV} {v : Value} {c : Option DP} (hv : Rd w S ρ H.length a v) (h : rslv1 H a = some (c, x)) (hc : condK c True) (n : Nat) : Rd w (lent S ρ H) ρ n x v := by
  unfold rslv1 at h
  split at h
  · cases h; cases hv; exact .int _ _ _
  · cases h; cases hv; exact .bool _ _
  · cases h; cases hv; exact .str _ _
  · cases h; cases hv; exact .fn _ _
  · cases h
    exact (hv.closed1 rfl).nf.lend
  · rename_i q ver len
    cases hq : H.getD q .none with
    | none => rw [hq] at h; cases h
    | var => rw [hq] at h; cases h
    | arr cl v sz cap es =>
      rw [hq] at h
      simp only [contO, contR] at h
      cases cl with
      | false => cases h
      | true =>
        cases h
        simp only [condK] at hc
        obtain ⟨⟨rfl, rfl⟩, _⟩ := hc
        have hget := getD_some hq (by simp)
        cases hv with
        | own _ _ _ _ A cap0 hp hver hcp hA hr =>
          obtain ⟨k1, k2⟩ := hr (hm.ent q _ hget).1.symm
          have := own_row hm hget rfl (A := A) (off := 0) (len := es.length) (cap0 := cap0) (by omega) hcp (by omega) (fun h => by rw [k2 h]; simp) n
          simpa using this
  · rename_i q ver off len
    cases hq : H.getD q .none with
    | none => rw [hq] at h; cases h
    | var => rw [hq] at h; cases h
    | arr cl v sz cap es =>
      rw [hq] at h
      simp only [contS, contR] at h
      cases cl with
      | false => cases h
      | true =>
        cases h
        simp only [condK] at hc
        obtain ⟨⟨rfl, hle⟩, _⟩ := hc
        have hget := getD_some hq (by simp)
        have hent := hm.ent q _ hget
        cases hv with
        | osub _ _ _ _ _ A cap0 hp hver hcp hA hr =>
          obtain ⟨k1, k2⟩ := hr hent.1.symm
          exact own_row hm hget rfl hle hcp k1 (fun h => by rw [k2 h, hent.2.2.1]) n
  · cases h

theorem consR_some {α : Type} {x : Rs AV} {xs : Rs (List AV)} {c : Option DP} {ys : List AV} (h : consR x xs = some (c, ys)) : ∃ c1 y c2 ys', x = some (c1, y) ∧ xs = some (c2, ys') ∧ c = andOO c1 c2 ∧ ys = y :: ys' := by
  unfold consR at h
  split at h
  · cases h; exact ⟨_, _, _, _, rfl, rfl, rfl, rfl⟩
  · cases h
theorem andOO_split {c d : Option DP} (h : condK (andOO c d) True) : condK c True ∧ condK d True := by
  cases c with
  | none => exact ⟨trivial, h⟩
  | some c => cases d with
    | none => exact ⟨h, trivial⟩
    | some d => exact ⟨⟨h.1.1, trivial⟩, ⟨h.1.2, trivial⟩⟩

theorem rslvs_rd (hm : RH w S ρ H) : ∀ (cs ys : List AV) (c : Option DP), rslvs H cs = some (c, ys) → condK c True → ys.length = cs.length ∧ ∀ (n i : Nat) (y : AV) (v : Value), ys[i]? = some y → (∀ a, cs[i]? = some a → Rd w S ρ H.length a v) → Rd w (lent S ρ H) ρ n y v
  | [], ys, c, h, _ => by simp only [rslvs, Option.some.injEq, Prod.mk.injEq] at h; obtain ⟨_, rfl⟩ := h; exact ⟨rfl, by simp⟩
  | a :: cs, ys, c, h, hc => by
    simp only [rslvs] at h
    obtain ⟨c1, y, c2, ys', h1, h2, rfl, rfl⟩ := consR_some (α := Unit) h
    obtain ⟨g1, g2⟩ := andOO_split hc
    obtain ⟨i1, i2⟩ := rslvs_rd hm cs ys' c2 h2 g2
    refine ⟨by simp [i1], fun n i z v hz hv => ?_⟩
    cases i with
    | zero => simp at hz; subst hz; exact rslv1_rd hm (hv a rfl) h1 g1 n
    | succ i => exact i2 n i z v (by simpa using hz) (fun b hb => hv b (by simpa using hb))

theorem rslv_agg_rd (hm : RH w S ρ H) {cs : List AV} {x : AV} {v : Value} {c : Option DP} (hv : Rd w S ρ H.length (.agg cs) v) (h : aggR (rslvs H cs) = some (c, x)) (hc : condK c True) (n : Nat) : Rd w (lent S ρ H) ρ n x v := by
  cases hr : rslvs H cs with
  | none => rw [hr] at h; cases h
  | some p =>
    obtain ⟨c', ys⟩ := p
    rw [hr] at h
    simp only [aggR, Option.some.injEq, Prod.mk.injEq] at h
    obtain ⟨rfl, rfl⟩ := h
    obtain ⟨i1, i2⟩ := rslvs_rd hm cs ys c' hr hc
    cases hv with
    | agg _ _ vs hl h1 hr' =>
      refine .agg _ ys vs (by omega) h1 fun i a v ha hv => i2 n i a v ha fun b hb => hr' i b v hb hv

theorem rslv_rd (hm : RH w S ρ H) {a x : AV} {v : Value} {c : Option DP} (hv : Rd w S ρ H.length a v) (h : rslv H a = some (c, x)) (hc : condK c True) (n : Nat) : Rd w (lent S ρ H) ρ n x v := by
  unfold rslv at h
  split at h
  · exact rslv_agg_rd hm hv h hc n
  · exact rslv1_rd hm hv h hc n
  · exact rslv1_rd hm hv h hc n
  · exact rslv1_rd hm hv h hc n
  · exact rslv1_rd hm hv h hc n
  · exact rslv1_rd hm hv h hc n
  · exact rslv1_rd hm hv h hc n
  · exact rslv1_rd hm hv h hc n
  · cases h

theorem rslvL_rd (hm : RH w S ρ H) : ∀ (cs ys : List AV) (c : Option DP), rslvL H cs = some (c, ys) → condK c True → ys.length = cs.length ∧ ∀ (n i : Nat) (y : AV) (v : Value), ys[i]? = some y → (∀ a, cs[i]? = some a → Rd w S ρ H.length a v) → Rd w (lent S ρ H) ρ n y v
  | [], ys, c, h, _ => by simp only [rslvL, Option.some.injEq, Prod.mk.injEq] at h; obtain ⟨_, rfl⟩ := h; exact ⟨rfl, by simp⟩
  | a :: cs, ys, c, h, hc => by
    simp only [rslvL] at h
    obtain ⟨c1, y, c2, ys', h1, h2, rfl, rfl⟩ := consR_some (α := Unit) h
    obtain ⟨g1, g2⟩ := andOO_split hc
    obtain ⟨i1, i2⟩ := rslvL_rd hm cs ys' c2 h2 g2
    refine ⟨by simp [i1], fun n i z v hz hv => ?_⟩
    cases i with
    | zero => simp at hz; subst hz; exact rslv_rd hm (hv a rfl) h1 g1 n
    | succ i => exact i2 n i z v (by simpa using hz) (fun b hb => hv b (by simpa using hb))

theorem rslvR_rd (hm : RH w S ρ H) {a x : AV} {v : Value} {c : Option DP} (hv : Rd w S ρ H.length a v) (h : rslvR H a = some (c, x)) (hc : condK c True) (n : Nat) : Rd w (lent S ρ H) ρ n x v := by
  unfold rslvR at h
  split at h
  · rename_i vs
    cases hr : rslvL H vs with
    | none => rw [hr] at h; cases h
    | some p =>
      obtain ⟨c', ys⟩ := p
      rw [hr] at h
      simp only [tupR, Option.some.injEq, Prod.mk.injEq] at h
      obtain ⟨rfl, rfl⟩ := h
      obtain ⟨i1, i2⟩ := rslvL_rd hm vs ys c' hr hc
      cases hv with
      | tup _ _ us hl hr' =>
        exact .tup _ ys us (by omega) fun i a v ha hv => i2 n i a v ha fun b hb => hr' i b v hb hv
  · exact rslv_agg_rd hm hv h hc n
  · exact rslv1_rd hm hv h hc n
  · exact rslv1_rd hm hv h hc n
  · exact rslv1_rd hm hv h hc n
  · exact rslv1_rd hm hv h hc n
  · exact rslv1_rd hm hv h hc n
  · exact rslv1_rd hm hv h hc n
  · exact rslv1_rd hm hv h hc n
  · cases h

/-! Where no place is named. -/
theorem namesL_rd : ∀ {cs : List AV}, namesL cs = false → ∀ (n m i : Nat) (a : AV) (v : Value), cs[i]? = some a → Rd w S ρ n a v → Rd w S ρ 0 a v
  | [], _, n, m, i, a, v, h, _ => by simp at h
  | c :: cs, hb, n, m, i, a, v, h, hr => by
    obtain ⟨h1, h2⟩ := orB_false hb
    cases i with
    | zero => simp at h; subst h; exact hr.names1 h1
    | succ i => exact namesL_rd h2 n m i a v (by simpa using h) hr
theorem rslv1_plain {a x : AV} {c : Option DP} (hn : names1 a = false) (h : rslv1 H a = some (c, x)) : x = nf a ∧ c = none := by
  cases a <;> simp only [rslv1, Rf.names1, Option.some.injEq, Prod.mk.injEq, Bool.true_eq_false, reduceCtorEq] at h hn <;> (obtain ⟨rfl, rfl⟩ := h; exact ⟨rfl, rfl⟩)
theorem rslvs_plain : ∀ (cs ys : List AV) (c : Option DP), namesL cs = false → rslvs H cs = some (c, ys) → ys = nfs cs ∧ c = none
  | [], ys, c, _, h => by simp only [rslvs, Option.some.injEq, Prod.mk.injEq] at h; obtain ⟨rfl, rfl⟩ := h; exact ⟨rfl, rfl⟩
  | a :: cs, ys, c, hn, h => by
    simp only [rslvs] at h
    obtain ⟨c1, y, c2, ys', h1, h2, rfl, rfl⟩ := consR_some (α := Unit) h
    obtain ⟨n1, n2⟩ := orB_false hn
    obtain ⟨rfl, rfl⟩ := rslv1_plain n1 h1
    obtain ⟨rfl, rfl⟩ := rslvs_plain cs ys' c2 n2 h2
    exact ⟨rfl, rfl⟩
theorem rslv_plain {a x : AV} {c : Option DP} {n : Nat} {v : Value} (hv : Rd w S ρ n a v) (hn : names a = false) (h : rslv H a = some (c, x)) : Rd w S ρ 0 x v ∧ c = none := by
  cases a with
  | agg cs =>
    simp only [rslv] at h
    cases hr : rslvs H cs with
    | none => rw [hr] at h; cases h
    | some p =>
      obtain ⟨c', ys⟩ := p
      rw [hr] at h
      simp only [aggR, Option.some.injEq, Prod.mk.injEq] at h
      obtain ⟨rfl, rfl⟩ := h
      obtain ⟨rfl, rfl⟩ := rslvs_plain cs ys c' hn hr
      refine ⟨?_, rfl⟩
      cases hv with
      | agg _ _ vs hl h1 hr' =>
        refine .agg _ _ vs (by rw [nfs_length]; exact hl) h1 fun i a v ha hv => ?_
        rw [nfs_get] at ha
        cases hc : cs[i]? with
        | none => rw [hc] at ha; cases ha
        | some b =>
          rw [hc] at ha
          cases ha
          exact (namesL_rd hn n 0 i b v hc (hr' i b v hc hv)).nf
  | int k m => simp only [rslv, Option.some.injEq, Prod.mk.injEq] at h; obtain ⟨rfl, rfl⟩ := h; exact ⟨hv.names1 rfl, rfl⟩
  | bool b => simp only [rslv, Option.some.injEq, Prod.mk.injEq] at h; obtain ⟨rfl, rfl⟩ := h; exact ⟨hv.names1 rfl, rfl⟩
  | str s => simp only [rslv, Option.some.injEq, Prod.mk.injEq] at h; obtain ⟨rfl, rfl⟩ := h; exact ⟨hv.names1 rfl, rfl⟩
  | fn f => simp only [rslv, Option.some.injEq, Prod.mk.injEq] at h; obtain ⟨rfl, rfl⟩ := h; exact ⟨hv.names1 rfl, rfl⟩
  | sl sz fr es => simp only [rslv, Option.some.injEq, Prod.mk.injEq] at h; obtain ⟨rfl, rfl⟩ := h; exact ⟨(hv.names1 rfl).nf, rfl⟩
  | _ => simp [names] at hn
theorem rslvL_plain : ∀ (cs ys : List AV) (c : Option DP), namesA cs = false → rslvL H cs = some (c, ys) → ys.length = cs.length ∧ ∀ (n i : Nat) (y : AV) (v : Value), ys[i]? = some y → (∀ a, cs[i]? = some a → Rd w S ρ n a v) → Rd w S ρ 0 y v
  | [], ys, c, _, h => by simp only [rslvL, Option.some.injEq, Prod.mk.injEq] at h; obtain ⟨rfl, rfl⟩ := h; exact ⟨rfl, by simp⟩
  | a :: cs, ys, c, hn, h => by
    simp only [rslvL] at h
    obtain ⟨c1, y, c2, ys', h1, h2, rfl, rfl⟩ := consR_some (α := Unit) h
    obtain ⟨n1, n2⟩ := orB_false hn
    obtain ⟨i1, i2⟩ := rslvL_plain cs ys' c2 n2 h2
    refine ⟨by simp [i1], fun n i z v hz hv => ?_⟩
    cases i with
    | zero => simp at hz; subst hz; exact (rslv_plain (hv a rfl) n1 h1).1
    | succ i => exact i2 n i z v (by simpa using hz) (fun b hb => hv b (by simpa using hb))

end
end Go.Rf
