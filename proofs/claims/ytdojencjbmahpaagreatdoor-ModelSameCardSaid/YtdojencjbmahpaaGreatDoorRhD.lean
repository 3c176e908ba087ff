/-
  RUNNING, part 4: the tree of temporaries tells the same as the list.
-/
import Derived.Test.YtdojencjbmahpaaGreatDoorRhC
set_option linter.unusedVariables false
set_option linter.unusedSimpArgs false
namespace Go.Rf

theorem sel_eq {α : Type} (i : Nat) (a b c : α) : sel i a b c = if i = 0 then a else if i % 2 = 1 then b else c := by
  unfold sel
  by_cases h : i = 0
  · subst h; rfl
  · have h1 : Nat.beq i 0 = false := by cases hb : Nat.beq i 0 with
      | false => rfl
      | true => exact absurd (Nat.eq_of_beq_eq_true hb) h
    rw [h1, if_neg h]
    by_cases h2 : i % 2 = 1
    · have h3 : Nat.beq (Nat.mod i 2) 1 = true := by show Nat.beq (i % 2) 1 = true; rw [h2]; rfl
      rw [h3, if_pos h2]
    · have h3 : Nat.beq (Nat.mod i 2) 1 = false := by
        cases hb : Nat.beq (Nat.mod i 2) 1 with
        | false => rfl
        | true => exact absurd (Nat.eq_of_beq_eq_true hb) h2
      rw [h3, if_neg h2]
theorem fget_leaf (i : Nat) : fget .leaf i = .junk := rfl
theorem fget_node (v : AV) (l r : TT) (i : Nat) : fget (.node v l r) i = if i = 0 then v else if i % 2 = 1 then fget l (i / 2) else fget r (i / 2 - 1) := by
  show sel i v (fget l (Nat.div i 2)) (fget r (Nat.pred (Nat.div i 2))) = _
  rw [sel_eq]
  rfl
theorem fset_leaf (f i : Nat) (v : AV) : fset (f + 1) i v .leaf = if i = 0 then .node v .leaf .leaf else if i % 2 = 1 then .node .junk (fset f (i / 2) v .leaf) .leaf else .node .junk .leaf (fset f (i / 2 - 1) v .leaf) := by
  show sel i _ _ _ = _
  rw [sel_eq]
  rfl
theorem fset_node (f i : Nat) (v u : AV) (l r : TT) : fset (f + 1) i v (.node u l r) = if i = 0 then .node v l r else if i % 2 = 1 then .node u (fset f (i / 2) v l) r else .node u l (fset f (i / 2 - 1) v r) := by
  show sel i _ _ _ = _
  rw [sel_eq]
  rfl

theorem fget_set : ∀ (f i : Nat) (v : AV) (t : TT) (j : Nat), i + 1 < 2 ^ f → fget (fset f i v t) j = if j = i then v else fget t j
  | 0, i, v, t, j, h => by simp at h
  | f + 1, i, v, t, j, h => by
    rw [Nat.pow_succ] at h
    have ih1 := fun (k : Nat) (t : TT) (j : Nat) (hk : k + 1 < 2 ^ f) => fget_set f k v t j hk
    cases t with
    | leaf =>
      rw [fset_leaf]
      by_cases h0 : i = 0
      · rw [if_pos h0, fget_node]
        subst h0
        simp only [fget_leaf]
        split <;> simp
      · rw [if_neg h0]
        by_cases h1 : i % 2 = 1
        · rw [if_pos h1, fget_node]
          by_cases hj : j = 0
          · subst hj; rw [if_pos rfl, if_neg (fun h => h0 h.symm), fget_leaf]
          · rw [if_neg hj]
            by_cases hj1 : j % 2 = 1
            · rw [if_pos hj1, ih1 _ _ _ (by omega), fget_leaf, fget_leaf]
              by_cases e : j = i
              · subst e; simp
              · rw [if_neg (by omega), if_neg e]
            · rw [if_neg hj1, fget_leaf, if_neg (by intro e; subst e; exact hj1 h1), fget_leaf]
        · rw [if_neg h1, fget_node]
          by_cases hj : j = 0
          · subst hj; rw [if_pos rfl, if_neg (fun h => h0 h.symm), fget_leaf]
          · rw [if_neg hj]
            by_cases hj1 : j % 2 = 1
            · rw [if_pos hj1, fget_leaf, if_neg (by intro e; subst e; exact h1 hj1), fget_leaf]
            · rw [if_neg hj1, ih1 _ _ _ (by omega), fget_leaf, fget_leaf]
              by_cases e : j = i
              · subst e; simp
              · rw [if_neg (by omega), if_neg e]
    | node u l r =>
      rw [fset_node, fget_node u l r j]
      by_cases h0 : i = 0
      · rw [if_pos h0, fget_node]
        subst h0
        split <;> rfl
      · rw [if_neg h0]
        by_cases h1 : i % 2 = 1
        · rw [if_pos h1, fget_node]
          by_cases hj : j = 0
          · subst hj; rw [if_pos rfl, if_neg (fun h => h0 h.symm), if_pos rfl]
          · rw [if_neg hj, if_neg hj]
            by_cases hj1 : j % 2 = 1
            · rw [if_pos hj1, if_pos hj1, ih1 _ _ _ (by omega)]
              by_cases e : j = i
              · subst e; simp
              · rw [if_neg (by omega), if_neg e]
            · rw [if_neg hj1, if_neg hj1, if_neg (by intro e; subst e; exact hj1 h1)]
        · rw [if_neg h1, fget_node]
          by_cases hj : j = 0
          · subst hj; rw [if_pos rfl, if_neg (fun h => h0 h.symm), if_pos rfl]
          · rw [if_neg hj, if_neg hj]
            by_cases hj1 : j % 2 = 1
            · rw [if_pos hj1, if_pos hj1, if_neg (by intro e; subst e; exact h1 hj1)]
            · rw [if_neg hj1, if_neg hj1, ih1 _ _ _ (by omega)]
              by_cases e : j = i
              · subst e; simp
              · rw [if_neg (by omega), if_neg e]

/-- The tree tells the list. -/
structure Tells (n : Nat) (t : TT) (T : List AV) : Prop where
  len : T.length = n
  small : n ≤ 4000
  get : ∀ i, fget t i = T.getD i .junk

theorem Tells.put {n : Nat} {t : TT} {T : List AV} (h : Tells n t T) (v : AV) (dst : Option Nat) : Tells n (fput n t v dst) (putT T v dst) := by
  cases dst with
  | none => exact h
  | some d =>
    refine ⟨by simp [putT, h.len], h.small, fun i => ?_⟩
    show fget (Bool.rec t (fset 12 d v t) (Nat.blt d n)) i = (T.set d v).getD i .junk
    have hs := h.small
    by_cases hd : d < n
    · have hb : Nat.blt d n = true := by
        show Nat.ble (d + 1) n = true
        exact Nat.ble_eq_true_of_le hd
      rw [hb]
      show fget (fset 12 d v t) i = _
      rw [fget_set 12 d v t i (by omega), h.get]
      by_cases e : i = d
      · subst e; simp [List.getD_eq_getElem?_getD, h.len, hd]
      · rw [if_neg e]; simp [List.getD_eq_getElem?_getD, List.getElem?_set_ne (Ne.symm e)]
    · have hb : Nat.blt d n = false := by
        cases hb : Nat.blt d n with
        | false => rfl
        | true => exact absurd (Nat.le_of_ble_eq_true hb) hd
      rw [hb]
      show fget t i = _
      rw [h.get, List.set_eq_of_length_le (by rw [h.len]; omega)]

theorem treeOf_get : ∀ (vs : List AV) (i : Nat) (t : TT) (j : Nat), i + vs.length ≤ 4000 → fget (treeOf vs i t) j = if i ≤ j ∧ j < i + vs.length then vs.getD (j - i) .junk else fget t j
  | [], i, t, j, _ => by simp only [treeOf, List.length_nil]; rw [if_neg (by omega)]
  | v :: vs, i, t, j, h => by
    simp only [List.length_cons] at h ⊢
    simp only [treeOf]
    rw [treeOf_get vs (i + 1) _ j (by omega), fget_set 12 i v t j (by omega)]
    by_cases h1 : i + 1 ≤ j ∧ j < i + 1 + vs.length
    · rw [if_pos h1, if_pos (by omega)]
      obtain ⟨k, rfl⟩ : ∃ k, j = i + 1 + k := ⟨j - (i + 1), by omega⟩
      rw [show i + 1 + k - (i + 1) = k by omega, show i + 1 + k - i = k + 1 by omega]
      rfl
    · rw [if_neg h1]
      by_cases h2 : j = i
      · subst h2; rw [if_pos rfl, if_pos (by omega)]; simp
      · rw [if_neg h2, if_neg (by omega)]
theorem padTo_getD (n : Nat) : ∀ (vs : List AV) (j : Nat), vs.length ≤ n → (padTo n vs).getD j .junk = vs.getD j .junk := by
  induction n with
  | zero => intro vs j h; have : vs = [] := List.eq_nil_of_length_eq_zero (by omega); subst this; simp [padTo]
  | succ n ih =>
    intro vs j h
    cases vs with
    | nil =>
      cases j with
      | zero => simp [padTo]
      | succ j => have := ih [] j (by simp); simpa [padTo] using this
    | cons v vs =>
      cases j with
      | zero => simp [padTo]
      | succ j => have := ih vs j (by simpa using h); simpa [padTo] using this
theorem Tells.start {n : Nat} {vs : List AV} (h : vs.length ≤ n) (hn : n ≤ 4000) : Tells n (treeOf vs 0 .leaf) (padTo n vs) := by
  refine ⟨padTo_length _ _, hn, fun i => ?_⟩
  rw [treeOf_get vs 0 .leaf i (by omega), padTo_getD n vs i h, fget_leaf]
  by_cases hi : i < vs.length
  · rw [if_pos (by omega)]; simp
  · rw [if_neg (by omega)]
    simp [List.getD_eq_getElem?_getD, List.getElem?_eq_none (show vs.length ≤ i by omega)]

theorem Tells.ev {n : Nat} {t : TT} {T : List AV} (h : Tells n t T) : evT t = ev T := by
  funext x
  cases x with
  | tmp i => exact h.get i
  | _ => rfl
theorem evsE_eq (te : TE) (T : List AV) : ∀ (xs : List Operand) (ts : List TypeId), evsE te (ev T) xs ts = evs te T xs ts
  | [], _ => rfl
  | x :: xs, [] => by simp only [evsE, evs]; rw [evsE_eq te T xs []]
  | x :: xs, t :: ts => by simp only [evsE, evs]; rw [evsE_eq te T xs ts]
theorem placesOfE_eq (T : List AV) : ∀ (xs : List Operand), placesOfE (ev T) xs = placesOf T xs
  | [] => rfl
  | x :: xs => by simp only [placesOfE, placesOf]; rw [placesOfE_eq T xs]
theorem opReadsE_eq (T : List AV) (op : Op) : opReadsE (ev T) op = opReads T op := by
  cases op with
  | call c =>
    obtain ⟨callee, args, tys⟩ := c
    cases callee <;> first | rfl | exact placesOfE_eq T _
  | _ => rfl

/-- What the tree's run comes to, the list's run comes to. -/
def Sim {α : Type} (x : Option (FS × α)) (y : Option (St × α)) : Prop := ∀ s a, x = some (s, a) → ∃ T, y = some (⟨T, s.H⟩, a) ∧ Tells s.n s.T T
def Sim0 (x : Option FS) (y : Option St) : Prop := ∀ s, x = some s → ∃ T, y = some ⟨T, s.H⟩ ∧ Tells s.n s.T T
def SimE (x : FR) (y : XR) : Prop := ∀ e s, x = some (e, s) → ∃ T, y = some (e, ⟨T, s.H⟩) ∧ Tells s.n s.T T

theorem Sim0.none {y : Option St} : Sim0 none y := fun _ h => by cases h
theorem Sim.none {α : Type} {y : Option (St × α)} : Sim none y := fun _ _ h => by cases h
theorem SimE.none {y : XR} : SimE none y := fun _ _ h => by cases h
theorem Sim0.put {n : Nat} {t : TT} {T : List AV} {H : List Ent} (h : Tells n t T) (v : AV) (dst : Option Nat) (H' : List Ent) : Sim0 (some (FS.put ⟨n, t, H⟩ v dst H')) (some ⟨putT T v dst, H'⟩) := by
  intro s hs
  simp only [FS.put, Option.some.injEq] at hs
  subst hs
  exact ⟨_, rfl, h.put v dst⟩
theorem Sim.put {α : Type} {n : Nat} {t : TT} {T : List AV} {H : List Ent} (h : Tells n t T) (v : AV) (dst : Option Nat) (H' : List Ent) (a : α) : Sim (some (FS.put ⟨n, t, H⟩ v dst H', a)) (some (⟨putT T v dst, H'⟩, a)) := by
  intro s b hs
  simp only [FS.put, Option.some.injEq, Prod.mk.injEq] at hs
  obtain ⟨rfl, rfl⟩ := hs
  exact ⟨_, rfl, h.put v dst⟩
theorem Sim0.when {x : Option FS} {y : Option St} (b : Bool) (h : Sim0 x y) : Sim0 (whenB b x) (whenB b y) := by cases b with | true => exact h | false => exact Sim0.none
theorem Sim.when {α : Type} {x : Option (FS × α)} {y : Option (St × α)} (b : Bool) (h : Sim x y) : Sim (whenB b x) (whenB b y) := by cases b with | true => exact h | false => exact Sim.none
theorem Sim0.if {x x' : Option FS} {y y' : Option St} (b : Bool) (h : Sim0 x y) (h' : Sim0 x' y') : Sim0 (xIf b x x') (xIf b y y') := by cases b <;> assumption
theorem Sim.if {α : Type} {x x' : Option (FS × α)} {y y' : Option (St × α)} (b : Bool) (h : Sim x y) (h' : Sim x' y') : Sim (xIf b x x') (xIf b y y') := by cases b <;> assumption
theorem SimE.if {x x' : FR} {y y' : XR} (b : Bool) (h : SimE x y) (h' : SimE x' y') : SimE (xIf b x x') (xIf b y y') := by cases b <;> assumption

section
variable {n : Nat} {t : TT} {T : List AV} {H : List Ent} (h : Tells n t T)
include h

theorem sim_dat (g : List AV → Option (AV × Ent)) (dst : Option Nat) (b : Bool) (r : Rs (List AV)) : Sim0 (fDatCall g ⟨n, t, H⟩ dst b r) (xDatCall g ⟨T, H⟩ dst b r) := by
  cases r with
  | none => cases b <;> exact Sim0.none
  | some q =>
    obtain ⟨c, xs⟩ := q
    cases b with
    | false =>
      simp only [fDatCall, xDatCall]
      cases g xs with
      | none => exact Sim0.none
      | some x => exact Sim0.put h _ _ _
    | true =>
      simp only [fDatCall, xDatCall]
      refine Sim0.when _ ?_
      cases g xs with
      | none => exact Sim0.none
      | some x =>
        obtain ⟨x, e⟩ := x
        cases e with
        | none => exact Sim0.when _ (Sim0.put h _ _ _)
        | _ => exact Sim0.none
theorem sim_call (dst : Option Nat) (args : List AV) (x : Option XS) : Sim0 (fCall ⟨n, t, H⟩ dst args x) (xCall ⟨T, H⟩ dst args x) := by
  cases x with
  | none => exact Sim0.none
  | some x =>
    cases x with
    | dat g => exact sim_dat h g dst _ _
    | gen g =>
      simp only [fCall, xCall]
      cases g args H with
      | none => exact Sim0.none
      | some p => exact Sim0.put h _ _ _
theorem sim_putO (dst : Option Nat) (o : Option Out) : Sim0 (fPutO ⟨n, t, H⟩ dst o) (putO ⟨T, H⟩ dst o) := by
  cases o with
  | none => exact Sim0.none
  | some o => exact Sim0.when _ (Sim0.put h _ _ _)
omit h in
theorem sim_or {x x' : Option FS} {y y' : Option St} (h1 : Sim0 x y) (h1' : x = none → y = none) (h2 : Sim0 x' y') : Sim0 (orO x x') (orO y y') := by
  cases x with
  | none => rw [h1' rfl]; exact h2
  | some z =>
    intro s hs
    simp only [orO, Option.some.injEq] at hs
    subst hs
    obtain ⟨T', e, k⟩ := h1 z rfl
    exact ⟨T', by rw [e]; rfl, k⟩
omit h in
theorem putO_none (dst : Option Nat) (o : Option Out) (he : fPutO ⟨n, t, H⟩ dst o = none) : putO ⟨T, H⟩ dst o = none := by
  cases o with
  | none => rfl
  | some o =>
    simp only [fPutO, putO] at he ⊢
    cases hb : okC o.c with
    | true => rw [hb] at he; cases he
    | false => rfl
theorem sim_special (te : TE) (X : XE) (dst : Option Nat) (op : Op) : Sim0 (fSpecial te X ⟨n, t, H⟩ dst op) (xSpecial te X ⟨T, H⟩ dst op) := by
  unfold fSpecial xSpecial
  split
  · rename_i f args tys
    show Sim0 (fCall ⟨n, t, H⟩ dst (evsE te (evT t) args.toList tys.toList) (xCallee X (evT t f))) (xCall ⟨T, H⟩ dst (evs te T args.toList tys.toList) (xCallee X (ev T f)))
    rw [h.ev, evsE_eq]
    exact sim_call h dst _ _
  · rename_i b args tys
    show Sim0 (fBuiltin te ⟨n, t, H⟩ dst b args.toList tys.toList) (xBuiltin te ⟨T, H⟩ dst b args.toList tys.toList)
    unfold fBuiltin xBuiltin
    split
    · rename_i x y t1 u1 ha ht
      simp only [ha, ht]
      show Sim0 (fApp ⟨n, t, H⟩ dst (evT t x) (evT t y) (te u1) (elemI te (te t1))) (xApp ⟨T, H⟩ dst (ev T x) (ev T y) (te u1) (elemI te (te t1)))
      rw [h.ev]
      cases elemI te (te t1) with
      | none => exact Sim0.none
      | some i => exact sim_or (sim_putO h _ _) (putO_none _ _) (sim_putO h _ _)
    · exact Sim0.none
  · rename_i op t1 x y ty
    show Sim0 (fBin ⟨n, t, H⟩ dst (evT t x) (andB (isSlice (te t1)) (isNilConst y)) op) (xBin ⟨T, H⟩ dst (ev T x) (andB (isSlice (te t1)) (isNilConst y)) op)
    rw [h.ev]
    have hn : ∀ neq, Sim0 (fNil ⟨n, t, H⟩ dst neq (ev T x)) (xNil ⟨T, H⟩ dst neq (ev T x)) := by
      intro neq
      cases ev T x with
      | sl sz fr es => cases es <;> first | exact Sim0.put h _ _ _ | exact Sim0.none
      | own q v len => cases len <;> first | exact Sim0.put h _ _ _ | exact Sim0.none
      | _ => exact Sim0.none
    cases op <;> simp only [fBin, xBin] <;> first | exact Sim0.when _ (hn _) | exact Sim0.none
  · exact Sim0.none
theorem sim_op (te : TE) (X : XE) (o : Oper) : Sim0 (fOp te X o ⟨n, t, H⟩) (xOp te X o ⟨T, H⟩) := by
  unfold fOp xOp evOp
  show Sim0 (fOpK te X o ⟨n, t, H⟩ (evOpE te H.length (evT t) H o.op)) (xOpK te X o ⟨T, H⟩ (evOpE te H.length (ev T) H o.op))
  rw [h.ev]
  cases evOpE te H.length (ev T) H o.op with
  | none => exact sim_special h te X o.dst o.op
  | some out => exact Sim0.when _ (Sim0.put h _ _ _)
theorem sim_guard (te : TE) (X : XE) (all : List Oper) (o : Oper) (g : Option (Nat × Bool)) : Sim0 (fGuard te X all o ⟨n, t, H⟩ g) (xGuard te X all o ⟨T, H⟩ g) := by
  cases g with
  | none => exact sim_op h te X o
  | some g =>
    obtain ⟨j, want⟩ := g
    simp only [fGuard, xGuard]
    cases dstAt all j with
    | none => exact Sim0.none
    | some d =>
      simp only [fGuardD, xGuardD]
      rw [h.get]
      cases T.getD d .junk with
      | bool b => exact Sim0.if _ (sim_op h te X o) (Sim0.put h _ _ _)
      | tup vs =>
        cases vs with
        | nil => exact Sim0.put h _ _ _
        | cons v vs => exact Sim0.none
      | _ => exact Sim0.none
omit h in
theorem sim_seq (te : TE) (X : XE) (all : List Oper) : ∀ (l : List Oper) {n : Nat} {t : TT} {T : List AV} {H : List Ent} (h : Tells n t T), Sim0 (fSeq te X all l ⟨n, t, H⟩) (xSeq te X all l ⟨T, H⟩)
  | [], n, t, T, H, h => by intro s hs; cases hs; exact ⟨T, rfl, h⟩
  | o :: l, n, t, T, H, h => by
    show Sim0 (bindF' (fSeq te X all l) (fGuard te X all o ⟨n, t, H⟩ o.guard)) (bindS (xSeq te X all l) (xGuard te X all o ⟨T, H⟩ o.guard))
    cases hx : fGuard te X all o ⟨n, t, H⟩ o.guard with
    | none => exact Sim0.none
    | some s =>
      obtain ⟨T', e, k⟩ := sim_guard h te X all o o.guard s hx
      rw [e]
      obtain ⟨n', t', H'⟩ := s
      exact sim_seq te X all l k

theorem sim_drO (te : TE) (X : XE) (p : Nat) (o : Oper) : Sim (gXO te X p o ⟨n, t, H⟩) (drXO te X p o ⟨T, H⟩) := by
  unfold gXO drXO evOp
  show Sim (gXK te X p o ⟨n, t, H⟩ (evOpE te p (evT t) H o.op)) (drXK te X p o ⟨T, H⟩ (evOpE te p (ev T) H o.op))
  rw [h.ev]
  cases evOpE te p (ev T) H o.op with
  | some out =>
    show Sim (whenB _ (some (FS.put ⟨n, t, H⟩ _ _ _, (⟨_, opReadsE (evT t) o.op⟩ : Foot)))) (whenB _ (some (⟨_, _⟩, (⟨_, opReads T o.op⟩ : Foot))))
    rw [h.ev, opReadsE_eq]
    exact Sim.when _ (Sim.put h _ _ _ _)
  | none =>
    simp only [gXK, drXK]
    unfold gXS drXS
    split
    · rename_i f args tys ho
      simp only [ho]
      show Sim (gXC p ⟨n, t, H⟩ o.dst (evsE te (evT t) args.toList tys.toList) (xCallee X (evT t f))) (drXC p ⟨T, H⟩ o.dst (evs te T args.toList tys.toList) (xCallee X (ev T f)))
      rw [h.ev, evsE_eq]
      cases xCallee X (ev T f) with
      | none => exact Sim.none
      | some x =>
        cases x with
        | gen g => exact Sim.none
        | dat g =>
          simp only [gXC, drXC]
          cases rslvL H (evs te T args.toList tys.toList) with
          | none => cases namesA (evs te T args.toList tys.toList) <;> exact Sim.none
          | some q =>
            obtain ⟨c, xs⟩ := q
            cases namesA (evs te T args.toList tys.toList) with
            | true => exact Sim.none
            | false =>
              simp only [gXD, drXD]
              cases g xs with
              | none => exact Sim.none
              | some x => exact Sim.when _ (Sim.put h _ _ _ _)
    · exact Sim.none
theorem sim_drG (te : TE) (X : XE) (all : List Oper) (p : Nat) (o : Oper) (g : Option (Nat × Bool)) : Sim (gXG te X all p o ⟨n, t, H⟩ g) (drXG te X all p o ⟨T, H⟩ g) := by
  cases g with
  | none => exact sim_drO h te X p o
  | some g =>
    obtain ⟨j, want⟩ := g
    simp only [gXG, drXG]
    cases dstAt all j with
    | none => exact Sim.none
    | some d =>
      simp only [gXGD, drXGD]
      rw [h.get]
      cases T.getD d .junk with
      | bool b => exact Sim.if _ (sim_drO h te X p o) (Sim.put h _ _ _ _)
      | _ => exact Sim.none
omit h in
theorem sim_dr (te : TE) (X : XE) (all : List Oper) : ∀ (l : List Oper) (p : Nat) (done : List Foot) {n : Nat} {t : TT} {T : List AV} {H : List Ent} (h : Tells n t T), Sim (fDr te X all l p done ⟨n, t, H⟩) (xDr te X all l p done ⟨T, H⟩)
  | [], p, done, n, t, T, H, h => by
    intro s a hs
    simp only [fDr, Option.some.injEq, Prod.mk.injEq] at hs
    obtain ⟨rfl, rfl⟩ := hs
    exact ⟨T, rfl, h⟩
  | o :: l, p, done, n, t, T, H, h => by
    simp only [fDr, xDr]
    cases hx : gXG te X all p o ⟨n, t, H⟩ o.guard with
    | none => exact Sim.none
    | some q =>
      obtain ⟨s, g⟩ := q
      obtain ⟨T', e, k⟩ := sim_drG h te X all p o o.guard s g hx
      rw [e]
      obtain ⟨n', t', H'⟩ := s
      exact sim_dr te X all l (p + 1) (g :: done) k
theorem sim_draw (te : TE) (X : XE) (all : List Oper) : Sim0 (fDraw te X all ⟨n, t, H⟩) (xDraw te X all ⟨T, H⟩) := by
  unfold fDraw xDraw fDrawM xDrawM
  show Sim0 (fTail te X all _ _ (fDr te X all _ H.length [] ⟨n, t, H ++ nones _⟩)) (xTail te X all _ _ (xDr te X all _ H.length [] ⟨T, H ++ nones _⟩))
  cases hx : fDr te X all (takeL (freeM (befores all)) all) H.length [] ⟨n, t, H ++ nones (freeM (befores all))⟩ with
  | none => exact Sim0.none
  | some q =>
    obtain ⟨s, d⟩ := q
    obtain ⟨T', e, k⟩ := sim_dr te X all _ _ _ h s d hx
    rw [e]
    obtain ⟨n', t', H'⟩ := s
    exact Sim0.when _ (sim_seq te X all _ k)
theorem sim_reg (te : TE) (X : XE) (all : List Oper) (b : Bool) : Sim0 (fReg te X all ⟨n, t, H⟩ b) (xReg te X all ⟨T, H⟩ b) := by
  cases b with
  | false => exact sim_seq te X all all h
  | true => exact sim_draw h te X all
omit h
theorem sim_then {f : FS → FR} {g : St → XR} {x : FR} {y : XR} (h1 : SimE x y) (h2 : ∀ n t T H, Tells n t T → SimE (f ⟨n, t, H⟩) (g ⟨T, H⟩)) : SimE (thenF f x) (thenX g y) := by
  cases x with
  | none => exact SimE.none
  | some q =>
    obtain ⟨e, s⟩ := q
    obtain ⟨T', hy, k⟩ := h1 e s rfl
    rw [hy]
    obtain ⟨n', t', H'⟩ := s
    cases e with
    | normal => exact h2 _ _ _ _ k
    | _ => intro e2 s2 hs; cases hs; exact ⟨T', rfl, k⟩
theorem sim_loop {f : FS → FR} {g : St → XR} (h2 : ∀ n t T H, Tells n t T → SimE (f ⟨n, t, H⟩) (g ⟨T, H⟩)) : ∀ (N n : Nat) (t : TT) (T : List AV) (H : List Ent), Tells n t T → SimE (fLoop f N ⟨n, t, H⟩) (xLoop g N ⟨T, H⟩)
  | 0, n, t, T, H, h => SimE.none
  | N + 1, n, t, T, H, h => sim_then (h2 _ _ _ _ h) (sim_loop h2 N)
theorem sim_code (te : TE) (X : XE) (N : Nat) : ∀ (c : Code) (n : Nat) (t : TT) (T : List AV) (H : List Ent), Tells n t T → SimE (fCode te X N c ⟨n, t, H⟩) (xCode te X N c ⟨T, H⟩) := by
  intro c
  induction c with
  | skip => intro n t T H h e s hs; cases hs; exact ⟨T, rfl, h⟩
  | ret => intro n t T H h e s hs; cases hs; exact ⟨T, rfl, h⟩
  | exit i => intro n t T H h e s hs; cases hs; exact ⟨T, rfl, h⟩
  | region id ops dr =>
    intro n t T H h
    show SimE (normF (fReg te X ops.toList ⟨n, t, H⟩ dr)) (norm (xReg te X ops.toList ⟨T, H⟩ dr))
    cases hx : fReg te X ops.toList ⟨n, t, H⟩ dr with
    | none => exact SimE.none
    | some s =>
      obtain ⟨T', e, k⟩ := sim_reg h te X ops.toList dr s hx
      rw [e]
      intro e2 s2 hs
      cases hs
      exact ⟨T', rfl, k⟩
  | seq x y ihx ihy =>
    intro n t T H h
    exact sim_then (ihx n t T H h) ihy
  | cond c x y ihx ihy =>
    intro n t T H h
    show SimE (fCond (fCode te X N x ⟨n, t, H⟩) (fCode te X N y ⟨n, t, H⟩) (evT t c)) (xCond (xCode te X N x ⟨T, H⟩) (xCode te X N y ⟨T, H⟩) (ev T c))
    rw [h.ev]
    cases ev T c with
    | bool b => exact SimE.if _ (ihx n t T H h) (ihy n t T H h)
    | _ => exact SimE.none
  | block id c ih =>
    intro n t T H h
    show SimE (outOfF id (fCode te X N c ⟨n, t, H⟩)) (outOf id (xCode te X N c ⟨T, H⟩))
    have h1 := ih n t T H h
    cases hx : fCode te X N c ⟨n, t, H⟩ with
    | none => exact SimE.none
    | some q =>
      obtain ⟨e, s⟩ := q
      obtain ⟨T', hy, k⟩ := h1 e s hx
      rw [hy]
      cases e with
      | exit i =>
        simp only [outOfF, outOf]
        refine SimE.if _ ?_ ?_
        · intro e2 s2 hs; cases hs; exact ⟨T', rfl, k⟩
        · intro e2 s2 hs; cases hs; exact ⟨T', rfl, k⟩
      | _ => intro e2 s2 hs; cases hs; exact ⟨T', rfl, k⟩
  | loop c ih =>
    intro n t T H h
    exact sim_loop ih N n t T H h
  | _ => intro n t T H h; exact SimE.none
end

theorem fResAll_eq {n : Nat} {t : TT} {T : List AV} (h : Tells n t T) (te : TE) (H : List Ent) : ∀ (ts : List TypeId) (rs : List ResultVar), fResAll te t H ts rs = resAll te T H ts rs
  | [], [] => rfl
  | _ :: _, [] => rfl
  | [], _ :: _ => rfl
  | ty :: ts, r :: rs => by
    simp only [fResAll, resAll]
    rw [fResAll_eq h te H ts rs]
    congr 1
    cases r with
    | tmp i => simp only [fResOne, resOne]; rw [h.get]
    | cell a u => simp only [fResOne, resOne]; rw [h.get]

theorem fFun_eq {te : TE} {X : XE} {N : Nat} {fn : Func} {args : List AV} {H : List Ent} {r : AV × List Ent} (h : fFun te X N fn args H = some r) : xFun te X N fn args H = some r := by
  unfold fFun at h
  obtain ⟨h1, h2⟩ := whenB_some h
  obtain ⟨h3, h4⟩ := andB_true h1
  have hle := Nat.le_of_ble_eq_true h3
  have hsm := Nat.le_of_ble_eq_true h4
  have hleb : ∀ {a b : Nat}, a ≤ b → leb a b = true := by
    intro a
    induction a with
    | zero => intro b _; rfl
    | succ a ih => intro b hb; cases b with
      | zero => omega
      | succ b => exact ih (by omega)
  unfold xFun
  rw [hleb hle]
  show xBody te X N fn args H fn.body = some r
  cases hb : fn.body with
  | none => rw [hb] at h2; cases h2
  | some c =>
    rw [hb] at h2
    simp only [fBody] at h2
    simp only [xBody]
    have hstart := Tells.start hle hsm
    cases hx : fCode te X N c ⟨fn.ntmps, treeOf args 0 .leaf, H⟩ with
    | none => rw [hx] at h2; cases h2
    | some q =>
      obtain ⟨e, s⟩ := q
      obtain ⟨T', hy, k⟩ := sim_code te X N c _ _ _ H hstart e s hx
      rw [hx] at h2
      rw [hy]
      cases e with
      | exit i => cases h2
      | normal => simp only [fEnd, xEnd] at h2 ⊢; rw [← fResAll_eq k]; exact h2
      | ret => simp only [fEnd, xEnd] at h2 ⊢; rw [← fResAll_eq k]; exact h2

section
variable {P : Program}
theorem fGen_sound {te : TE} (hte : TEok P te) {X : XE} (hX : Sound P X.env) (hmix : P.follows .mixedOrders = true) {f : FuncId} {fn : Func} (hf : IsFun P f fn) (hst : codeStat (fn.body.getD .skip) = true) (N : Nat) :
    SpecSound P f (XS.spec (.gen (fFun te X N fn))) := by
  rintro w S ρ H xs args Φ hm hargs ⟨r, H', hr, hΦ⟩
  exact xFun_sound hte hX hmix hf hst N w S ρ H xs args Φ hm hargs ⟨r, H', fFun_eq hr, hΦ⟩
/-- A function on data, run on the tree. -/
noncomputable def fDat (te : TE) (X : XE) (N : Nat) (fn : Func) : List AV → Option (AV × Ent) := datOf 8 (fFun te X N fn)
theorem fDat_sound {te : TE} (hte : TEok P te) {X : XE} (hX : Sound P X.env) (hmix : P.follows .mixedOrders = true) {f : FuncId} {fn : Func} (hf : IsFun P f fn) (hst : codeStat (fn.body.getD .skip) = true) (N : Nat) :
    SpecSound P f (XS.spec (.dat (fDat te X N fn))) := datOf_sound (fGen_sound hte hX hmix hf hst N) 8
noncomputable def fHyb (te : TE) (X : XE) (N : Nat) (fn : Func) : List AV → List Ent → Option (AV × List Ent) := hyb (fDat te X N fn) (fFun te X N fn)
theorem fHyb_sound {te : TE} (hte : TEok P te) {X : XE} (hX : Sound P X.env) (hmix : P.follows .mixedOrders = true) {f : FuncId} {fn : Func} (hf : IsFun P f fn) (hst : codeStat (fn.body.getD .skip) = true) (N : Nat) :
    SpecSound P f (XS.spec (.gen (fHyb te X N fn))) := hyb_sound (fDat_sound hte hX hmix hf hst N) (fGen_sound hte hX hmix hf hst N)
end
end Go.Rf
