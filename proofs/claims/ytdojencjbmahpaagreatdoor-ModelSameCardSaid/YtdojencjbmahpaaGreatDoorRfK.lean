/-
  THE SYMBOLIC EXECUTOR, part 20: regions whose order is open: effects in whatever order come to the same.
-/
import Derived.Test.YtdojencjbmahpaaGreatDoorRfJ
set_option linter.unusedVariables false
set_option linter.unusedSimpArgs false
namespace Go.Rf

theorem setH_set : ∀ (H : List Ent) (p : Nat) (e : Ent), p < H.length → setH H p e = H.set p e
  | [], p, e, h => by simp at h
  | x :: H, 0, e, _ => rfl
  | x :: H, p + 1, e, h => by simp only [setH, List.set_cons_succ]; rw [setH_set H p e (by simpa using h)]

def inb (n : Nat) (w : List (Nat × Ent)) : Prop := ∀ x ∈ w, x.1 < n
theorem putH_length : ∀ (w : List (Nat × Ent)) (H : List Ent), inb H.length w → (putH H w).length = H.length
  | [], H, _ => rfl
  | (q, e) :: w, H, h => by
    have hq : q < H.length := h (q, e) (by simp)
    simp only [putH, setH_set H q e hq]
    rw [putH_length w (H.set q e) (fun x hx => by rw [List.length_set]; exact h x (by simp [hx]))]
    simp
theorem putH_set : ∀ (w : List (Nat × Ent)) (H : List Ent) (p : Nat) (e : Ent), inb H.length w → (∀ x ∈ w, x.1 ≠ p) → putH (H.set p e) w = (putH H w).set p e
  | [], H, p, e, _, _ => rfl
  | (q, e') :: w, H, p, e, h, hne => by
    have hq : q < H.length := h (q, e') (by simp)
    simp only [putH]
    rw [setH_set H q e' hq, setH_set (H.set p e) q e' (by simpa using hq), List.set_comm _ _ (Ne.symm (hne (q, e') (by simp)))]
    exact putH_set w (H.set q e') p e (fun x hx => by rw [List.length_set]; exact h x (by simp [hx])) (fun x hx => hne x (by simp [hx]))
theorem putH_comm : ∀ (w u : List (Nat × Ent)) (H : List Ent), inb H.length w → inb H.length u → (∀ x ∈ w, ∀ y ∈ u, x.1 ≠ y.1) → putH (putH H w) u = putH (putH H u) w
  | [], u, H, _, _, _ => rfl
  | (q, e) :: w, u, H, hw, hu, hne => by
    have hq : q < H.length := hw (q, e) (by simp)
    simp only [putH]
    rw [setH_set H q e hq, setH_set (putH H u) q e (by rw [putH_length u H hu]; exact hq)]
    rw [putH_comm w u (H.set q e) (fun x hx => by rw [List.length_set]; exact hw x (by simp [hx])) (fun x hx => by rw [List.length_set]; exact hu x hx) (fun x hx y hy => hne x (by simp [hx]) y hy)]
    rw [putH_set u H q e hu (fun y hy => Ne.symm (hne (q, e) (by simp) y hy))]
theorem putH_getD : ∀ (w : List (Nat × Ent)) (H H' : List Ent) (q : Nat), H.length = H'.length → inb H.length w → H.getD q .none = H'.getD q .none → (putH H w).getD q .none = (putH H' w).getD q .none
  | [], H, H', q, _, _, h => h
  | (p, e) :: w, H, H', q, hl, hw, h => by
    have hp : p < H.length := hw (p, e) (by simp)
    simp only [putH]
    rw [setH_set H p e hp, setH_set H' p e (by omega)]
    refine putH_getD w _ _ q (by simp [hl]) (fun x hx => by rw [List.length_set]; exact hw x (by simp [hx])) ?_
    by_cases hpq : p = q
    · subst hpq
      simp [List.getD_eq_getElem?_getD, hp, show p < H'.length by omega]
    · simpa [List.getD_eq_getElem?_getD, List.getElem?_set_ne hpq] using h
theorem putH_other : ∀ (w : List (Nat × Ent)) (H : List Ent) (q : Nat), inb H.length w → (∀ x ∈ w, x.1 ≠ q) → (putH H w).getD q .none = H.getD q .none
  | [], H, q, _, _ => rfl
  | (p, e) :: w, H, q, hw, hne => by
    have hp : p < H.length := hw (p, e) (by simp)
    simp only [putH]
    rw [setH_set H p e hp, putH_other w _ q (fun x hx => by rw [List.length_set]; exact hw x (by simp [hx])) (fun x hx => hne x (by simp [hx]))]
    simp [List.getD_eq_getElem?_getD, List.getElem?_set_ne (hne (p, e) (by simp))]

theorem putT_length (T : List AV) (v : AV) (d : Option Nat) : (putT T v d).length = T.length := by cases d <;> simp [putT]
theorem putT_comm (T : List AV) (v u : AV) (d e : Option Nat) (h : ∀ x, d = some x → e ≠ some x) : putT (putT T v d) u e = putT (putT T u e) v d := by
  cases d with
  | none => rfl
  | some d => cases e with
    | none => rfl
    | some e => simp only [putT]; exact List.set_comm _ _ (fun heq => h d rfl (by rw [heq]))
theorem putT_getD (T T' : List AV) (v : AV) (d : Option Nat) (t : Nat) (hl : T.length = T'.length) (h : T.getD t .junk = T'.getD t .junk) : (putT T v d).getD t .junk = (putT T' v d).getD t .junk := by
  cases d with
  | none => exact h
  | some d =>
    simp only [putT]
    by_cases hd : d = t
    · subst hd
      by_cases hlt : d < T.length
      · simp [List.getD_eq_getElem?_getD, hlt, show d < T'.length by omega]
      · rw [List.set_eq_of_length_le (by omega), List.set_eq_of_length_le (by omega)]; exact h
    · simpa [List.getD_eq_getElem?_getD, List.getElem?_set_ne hd] using h
theorem putT_other (T : List AV) (v : AV) (d : Option Nat) (t : Nat) (h : d ≠ some t) : (putT T v d).getD t .junk = T.getD t .junk := by
  cases d with
  | none => rfl
  | some d => simp only [putT]; have hne : d ≠ t := fun e => h (by rw [e]); simp [List.getD_eq_getElem?_getD, List.getElem?_set_ne hne]

/-- Sound effects over a memory of n places. -/
def EffOK (n : Nat) (e : Eff) : Prop := (∀ q ∈ e.f.w, q < n) ∧ (∀ x ∈ e.w, x.1 ∈ e.f.w)
theorem EffOK.inb {n : Nat} {e : Eff} (h : EffOK n e) : inb n e.w := fun x hx => h.1 _ (h.2 x hx)
theorem app_H {e : Eff} {s : St} (h : EffOK s.H.length e) : (e.app s).H.length = s.H.length := putH_length e.w s.H h.inb
theorem app_T (e : Eff) (s : St) : (e.app s).T.length = s.T.length := putT_length _ _ _

/-- Two effects that don't meet. -/
def Far (e f : Eff) : Prop := (∀ x, e.dst = some x → f.dst ≠ some x) ∧ (∀ x ∈ e.w, ∀ y ∈ f.w, x.1 ≠ y.1)
theorem app_comm {e f : Eff} {s : St} (he : EffOK s.H.length e) (hf : EffOK s.H.length f) (h : Far e f) : f.app (e.app s) = e.app (f.app s) := by
  unfold Eff.app
  simp only
  rw [putT_comm s.T e.v f.v e.dst f.dst h.1, putH_comm e.w f.w s.H he.inb hf.inb h.2]

/-- An effect that doesn't touch these. -/
def Off (ts ps : List Nat) (e : Eff) : Prop := (∀ d, e.dst = some d → d ∉ ts) ∧ (∀ x ∈ e.w, x.1 ∉ ps)
theorem agree_off {ts ps : List Nat} {e : Eff} {s s' : St} (h : Agree ts ps s s') (he : EffOK s'.H.length e) (ho : Off ts ps e) : Agree ts ps s (e.app s') where
  T := by rw [app_T]; exact h.T
  H := by rw [app_H he]; exact h.H
  t := fun t ht => by
    rw [h.t t ht]
    exact (putT_other s'.T e.v e.dst t (fun hd => ho.1 t hd ht)).symm
  p := fun q hq => by
    rw [h.p q hq]
    exact (putH_other e.w s'.H q he.inb (fun x hx heq => ho.2 x hx (by rw [heq]; exact hq))).symm
theorem Agree.symm {ts ps : List Nat} {s s' : St} (h : Agree ts ps s s') : Agree ts ps s' s := ⟨h.T.symm, h.H.symm, fun t ht => (h.t t ht).symm, fun q hq => (h.p q hq).symm⟩
theorem agree_both {ts ps : List Nat} {e : Eff} {s s' : St} (h : Agree ts ps s s') (he : EffOK s.H.length e) : Agree ts ps (e.app s) (e.app s') where
  T := by rw [app_T, app_T]; exact h.T
  H := by rw [app_H he, app_H (by rw [← h.H]; exact he)]; exact h.H
  t := fun t ht => putT_getD _ _ _ _ t h.T (h.t t ht)
  p := fun q hq => putH_getD _ _ _ q h.H he.inb (h.p q hq)

theorem agree_st {ts ps : List Nat} {n : Nat} : ∀ (es : List Eff) (L L' : Nat → Bool) (i : Nat) (s s' : St), Agree ts ps s s' → s.H.length = n → (∀ e ∈ es, EffOK n e) → (∀ k e, es[k]? = some e → L (i + k) ≠ L' (i + k) → Off ts ps e) →
    Agree ts ps (stOf es L i s) (stOf es L' i s')
  | [], L, L', i, s, s', h, _, _, _ => h
  | e :: es, L, L', i, s, s', h, hn, hok, hoff => by
    have he := hok e (by simp)
    have he1 : EffOK s.H.length e := by rw [hn]; exact he
    have he2 : EffOK s'.H.length e := by rw [← h.H, hn]; exact he
    simp only [stOf]
    have hrest : ∀ k e, es[k]? = some e → L (i + 1 + k) ≠ L' (i + 1 + k) → Off ts ps e := fun k e hk hne => hoff (k + 1) e (by simpa using hk) (by rw [show i + (k + 1) = i + 1 + k by omega]; exact hne)
    have hsub : ∀ e ∈ es, EffOK n e := fun e he => hok e (by simp [he])
    have h0 := hoff 0 e rfl
    simp only [Nat.add_zero] at h0
    cases hL : L i <;> cases hL' : L' i <;> simp only [if_true, if_false, Bool.false_eq_true]
    · exact agree_st es L L' (i + 1) s s' h hn hsub hrest
    · exact agree_st es L L' (i + 1) s _ (agree_off h he2 (h0 (by rw [hL, hL']; simp))) hn hsub hrest
    · exact agree_st es L L' (i + 1) _ s' ((agree_off h.symm he1 (h0 (by rw [hL, hL']; simp))).symm) (by rw [app_H he1]; exact hn) hsub hrest
    · exact agree_st es L L' (i + 1) _ _ (agree_both h he1) (by rw [app_H he1]; exact hn) hsub hrest

theorem st_comm {n : Nat} {e : Eff} (he : EffOK n e) : ∀ (es : List Eff) (L : Nat → Bool) (i : Nat) (s : St), s.H.length = n → (∀ f ∈ es, EffOK n f) → (∀ k f, es[k]? = some f → L (i + k) = true → Far e f) →
    stOf es L i (e.app s) = e.app (stOf es L i s)
  | [], L, i, s, _, _, _ => rfl
  | f :: es, L, i, s, hn, hok, hfar => by
    have hf := hok f (by simp)
    simp only [stOf]
    have hrest : ∀ k f, es[k]? = some f → L (i + 1 + k) = true → Far e f := fun k f hk h => hfar (k + 1) f (by simpa using hk) (by rw [show i + (k + 1) = i + 1 + k by omega]; exact h)
    have hsub : ∀ f ∈ es, EffOK n f := fun f hf => hok f (by simp [hf])
    cases hL : L i <;> simp only [if_true, if_false, Bool.false_eq_true]
    · exact st_comm he es L (i + 1) s hn hsub hrest
    · rw [app_comm (by rw [hn]; exact he) (by rw [hn]; exact hf) (hfar 0 f rfl hL)]
      exact st_comm he es L (i + 1) _ (by rw [app_H (by rw [hn]; exact hf)]; exact hn) hsub hrest

theorem st_congr : ∀ (es : List Eff) (L L' : Nat → Bool) (i : Nat) (s : St), (∀ k, k < es.length → L (i + k) = L' (i + k)) → stOf es L i s = stOf es L' i s
  | [], _, _, _, _, _ => rfl
  | e :: es, L, L', i, s, h => by
    simp only [stOf]
    have h0 := h 0 (by simp)
    simp only [Nat.add_zero] at h0
    rw [h0]
    exact st_congr es L L' (i + 1) _ (fun k hk => by rw [show i + 1 + k = i + (k + 1) by omega]; exact h (k + 1) (by simp; omega))

theorem st_length {n : Nat} : ∀ (es : List Eff) (L : Nat → Bool) (i : Nat) (s : St), s.H.length = n → (∀ e ∈ es, EffOK n e) → (stOf es L i s).H.length = n
  | [], _, _, _, h, _ => h
  | e :: es, L, i, s, h, hok => by
    simp only [stOf]
    refine st_length es L (i + 1) _ ?_ (fun f hf => hok f (by simp [hf]))
    split
    · rw [app_H (by rw [h]; exact hok e (by simp))]; exact h
    · exact h

/-- One more operation, in whatever place: its effect upon all that was done. -/
theorem st_more {n : Nat} : ∀ (es : List Eff) (L : Nat → Bool) (i j : Nat) (e : Eff) (s : St), s.H.length = n → (∀ f ∈ es, EffOK n f) → es[j]? = some e → L (i + j) = false → (∀ k f, es[k]? = some f → j < k → L (i + k) = true → Far e f) →
    stOf es (fun k => L k || k == i + j) i s = e.app (stOf es L i s)
  | [], L, i, j, e, s, _, _, h, _, _ => by simp at h
  | f :: es, L, i, 0, e, s, hn, hok, h, hL, hfar => by
    simp only [List.getElem?_cons_zero, Option.some.injEq] at h
    subst h
    simp only [Nat.add_zero] at hL ⊢
    simp only [stOf, hL, beq_self_eq_true, Bool.or_true, if_true, Bool.false_eq_true, if_false]
    have hf := hok f (by simp)
    rw [st_congr es (fun k => L k || k == i) L (i + 1) _ (fun k hk => by simp; omega)]
    exact st_comm hf es L (i + 1) s hn (fun g hg => hok g (by simp [hg])) (fun k g hk hLk => hfar (k + 1) g (by simpa using hk) (by omega) (by rw [show i + (k + 1) = i + 1 + k by omega]; exact hLk))
  | f :: es, L, i, j + 1, e, s, hn, hok, h, hL, hfar => by
    have hf := hok f (by simp)
    have hi : (L i || i == i + (j + 1)) = L i := by simp
    show stOf es (fun k => L k || k == i + (j + 1)) (i + 1) (if (L i || i == i + (j + 1)) = true then f.app s else s) = e.app (stOf es L (i + 1) (if L i = true then f.app s else s))
    have hif : (if (L i || i == i + (j + 1)) = true then f.app s else s) = (if L i = true then f.app s else s) := by simp only [hi]
    rw [hif]
    rw [st_congr es (fun k => L k || k == i + (j + 1)) (fun k => L k || k == (i + 1) + j) (i + 1) _ (fun k hk => by rw [show i + (j + 1) = i + 1 + j by omega])]
    refine st_more es L (i + 1) j e _ ?_ (fun g hg => hok g (by simp [hg])) (by simpa using h) (by rw [← hL]; congr 1; omega) (fun k g hk hjk hLk => hfar (k + 1) g (by simpa using hk) (by omega) (by rw [show i + (k + 1) = i + 1 + k by omega]; exact hLk))
    split
    · rw [app_H (by rw [hn]; exact hf)]; exact hn
    · exact hn

section
variable {P : Program} {te : TE} {Γ : GE} {all : List Oper}
/-- The state in front of each operation, in the order of the text. -/
theorem Valid.at {ops : List Oper} {s : St} {es : List Eff} (h : Valid P te Γ all ops s es) : ∀ (i j : Nat) (o : Oper) (e : Eff), ops[j]? = some o → es[j]? = some e → Local P te Γ all o (stOf es (fun k => decide (k < i + j)) i s) e := by
  induction h with
  | nil => intro i j o e ho; simp at ho
  | cons hl ht ih =>
    rename_i o os s e es
    intro i j o' e' ho he
    cases j with
    | zero =>
      simp only [List.getElem?_cons_zero, Option.some.injEq] at ho he
      subst ho; subst he
      have : ∀ (es : List Eff) (k : Nat) (s : St), i ≤ k → stOf es (fun k => decide (k < i + 0)) k s = s := by
        intro es
        induction es with
        | nil => intro k s _; rfl
        | cons e es ih => intro k s hk; simp only [stOf]; rw [if_neg (by simpa using hk)]; exact ih (k + 1) s (by omega)
      rw [this _ i s (Nat.le_refl _)]
      exact hl
    | succ j =>
      simp only [List.getElem?_cons_succ] at ho he
      simp only [stOf]
      rw [if_pos (by simp)]
      have := ih (i + 1) j o' e' ho he
      rw [show i + 1 + j = i + (j + 1) by omega] at this
      exact this
theorem Valid.len {ops : List Oper} {s : St} {es : List Eff} (h : Valid P te Γ all ops s es) : es.length = ops.length := by
  induction h with
  | nil => rfl
  | cons _ _ ih => simp [ih]
theorem Valid.ok {ops : List Oper} {s : St} {es : List Eff} (h : Valid P te Γ all ops s es) : ∀ e ∈ es, EffOK s.H.length e := by
  induction h with
  | nil => simp
  | cons hl ht ih =>
    rename_i o os s e es
    have he : EffOK s.H.length e := ⟨hl.inb, hl.sub⟩
    intro f hf
    rcases List.mem_cons.1 hf with rfl | hf
    · exact he
    · have := ih f hf; rwa [app_H he] at this
end

end Go.Rf
