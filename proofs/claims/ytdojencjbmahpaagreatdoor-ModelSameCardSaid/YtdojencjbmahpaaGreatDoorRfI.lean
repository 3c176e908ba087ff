/-
  THE SYMBOLIC EXECUTOR, part 18: regions whose order is open: what an operation needs to come to the same.
-/
import Derived.Test.YtdojencjbmahpaaGreatDoorRfH
set_option linter.unusedVariables false
set_option linter.unusedSimpArgs false
namespace Go.Rf

/-! ### The same operands, the same places: the same outcome. -/
theorem evLoad_congr {H H' : List Ent} {a : AV} (h : ∀ q ∈ placeOf a, H.getD q .none = H'.getD q .none) (agg : Bool) (n : Nat) : evLoad H agg n a = evLoad H' agg n a := by
  cases a <;> simp only [evLoad] <;> rw [h _ (by simp [placeOf])]
theorem evStore_congr {H H' : List Ent} {a : AV} (h : ∀ q ∈ placeOf a, H.getD q .none = H'.getD q .none) (n : Nat) (cs : Option (List AV)) : evStore H n cs a = evStore H' n cs a := by
  cases cs <;> cases a <;> simp only [evStore] <;> rw [h _ (by simp [placeOf])]
theorem evIndexAddr_congr {H H' : List Ent} {a : AV} (h : ∀ q ∈ placeOf a, H.getD q .none = H'.getD q .none) (esz : Nat) (i : AV) : evIndexAddr H esz i a = evIndexAddr H' esz i a := by
  cases i <;> cases a <;> simp only [evIndexAddr] <;> rw [h _ (by simp [placeOf])]
theorem evSlice_congr {H H' : List Ent} {a : AV} (h : ∀ q ∈ placeOf a, H.getD q .none = H'.getD q .none) (E : Operand → AV) (esz : Nat) (lo hi mx : Option Operand) : evSlice H E esz lo hi mx a = evSlice H' E esz lo hi mx a := by
  cases a <;> simp only [evSlice] <;> rw [h _ (by simp [placeOf])]
theorem contents_congr {H H' : List Ent} {a : AV} (h : ∀ q ∈ placeOf a, H.getD q .none = H'.getD q .none) : contents H a = contents H' a := by
  cases a <;> simp only [contents] <;> rw [h _ (by simp [placeOf])]
theorem evAppend_congr {H H' : List Ent} {a : AV} (h : ∀ q ∈ placeOf a, H.getD q .none = H'.getD q .none) (p esz bytes : Nat) (k : Option Cont) : evAppend p H esz bytes a k = evAppend p H' esz bytes a k := by
  cases a with
  | own q v l => simp only [evAppend]; rw [h q (by simp [placeOf])]
  | sl sz fr es => cases fr <;> rfl
  | _ => rfl
theorem evCopy_congr {H H' : List Ent} {a : AV} (h : ∀ q ∈ placeOf a, H.getD q .none = H'.getD q .none) (esz : Nat) (k : Option Cont) : evCopy H esz a k = evCopy H' esz a k := by
  cases a <;> simp only [evCopy] <;> rw [h _ (by simp [placeOf])]
theorem evClear_congr {H H' : List Ent} {a : AV} (h : ∀ q ∈ placeOf a, H.getD q .none = H'.getD q .none) (z : List AV) : evClear H z a = evClear H' z a := by
  cases a <;> simp only [evClear] <;> rw [h _ (by simp [placeOf])]
theorem appArg_congr {H H' : List Ent} {a : AV} (h : ∀ q ∈ placeOf a, H.getD q .none = H'.getD q .none) (i : TI) (t : Option TI) : appArg H i t a = appArg H' i t a := by
  cases t with
  | none => rfl
  | some k => simp only [appArg]; cases k.kind <;> simp only [appK] <;> rw [contents_congr h]

theorem fillParts_congr {T T' : List AV} (fields : List (Nat × Nat × Bool)) : ∀ (parts : List (Nat × Operand)) (r : Option (List AV)), (∀ x ∈ parts, ev T x.2 = ev T' x.2) → fillParts fields (ev T) parts r = fillParts fields (ev T') parts r
  | [], r, _ => by simp [fillParts]
  | x :: parts, none, h => rfl
  | x :: parts, some cells, h => by
    obtain ⟨i, x⟩ := x
    simp only [fillParts]
    rw [h (i, x) (by simp)]
    exact fillParts_congr fields parts _ (fun y hy => h y (by simp [hy]))
theorem fillElems_congr {T T' : List AV} (cl : Bool) (n : Nat) : ∀ (parts : List (Nat × Operand)) (r : Option (List (List AV))), (∀ x ∈ parts, ev T x.2 = ev T' x.2) → fillElems cl (ev T) n parts r = fillElems cl (ev T') n parts r
  | [], r, _ => by simp [fillElems]
  | x :: parts, none, h => rfl
  | x :: parts, some cells, h => by
    obtain ⟨i, x⟩ := x
    simp only [fillElems]
    rw [h (i, x) (by simp)]
    exact fillElems_congr cl n parts _ (fun y hy => h y (by simp [hy]))
theorem optInt_congr {T T' : List AV} (o : Option Operand) (h : ∀ x, o = some x → ev T x = ev T' x) : optInt (ev T) o = optInt (ev T') o := by
  cases o with
  | none => rfl
  | some x => simp only [optInt]; rw [h x rfl]

theorem placesOf_mem {T : List AV} : ∀ {args : List Operand} {x : Operand}, x ∈ args → ∀ q ∈ placeOf (ev T x), q ∈ placesOf T args
  | [], x, h, _, _ => by simp at h
  | y :: ys, x, h, q, hq => by
    simp only [placesOf, List.mem_append]
    rcases List.mem_cons.1 h with rfl | h
    · exact .inl hq
    · exact .inr (placesOf_mem h q hq)

theorem evBuiltin_congr {te : TE} {p : Nat} {T T' : List AV} {H H' : List Ent} (b : Builtin) (args : List Operand) (tys : List TypeId) (hT : ∀ x ∈ args, ev T x = ev T' x) (hH : ∀ q ∈ placesOf T args, H.getD q .none = H'.getD q .none) :
    evBuiltin te p (ev T) H b args tys = evBuiltin te p (ev T') H' b args tys := by
  have hp : ∀ x ∈ args, ∀ q ∈ placeOf (ev T' x), H.getD q .none = H'.getD q .none := fun x hx q hq => hH q (placesOf_mem hx q (by rw [hT x hx]; exact hq))
  unfold evBuiltin
  split
  · rw [hT _ (by simp)]
  · rw [hT _ (by simp), hT _ (by simp)]
  · rw [hT _ (by simp), hT _ (by simp)]
  · rename_i x y t u
    rw [hT x (by simp), hT y (by simp)]
    cases elemI te (te t) with
    | none => rfl
    | some i => simp only [evApp]; rw [appArg_congr (hp y (by simp)), evAppend_congr (hp x (by simp))]
  · rename_i x y t u
    rw [hT x (by simp), hT y (by simp)]
    cases elemI te (te t) with
    | none => rfl
    | some i => simp only [evCp]; rw [contents_congr (hp y (by simp)), evCopy_congr (hp x (by simp))]
  · rename_i x t
    rw [hT x (by simp)]
    cases elemI te (te t) with
    | none => rfl
    | some i => simp only [evCl]; rw [evClear_congr (hp x (by simp))]
  · rfl

theorem evOp_congr {te : TE} {p : Nat} {T T' : List AV} {H H' : List Ent} (op : Op) (hT : ∀ x ∈ op.operands, ev T x = ev T' x) (hH : ∀ q ∈ opReads T op, H.getD q .none = H'.getD q .none) : evOp te p T H op = evOp te p T' H' op := by
  cases op <;> simp only [Op.operands] at hT <;> simp only [evOp, evOpE]
  case move x => rw [hT x (by simp)]
  case assign x => rw [hT x (by simp)]
  case pick c a b => rw [hT c (by simp), hT a (by simp), hT b (by simp)]
  case box t x => rw [hT x (by simp)]
  case build t parts =>
    cases te t with
    | none => rfl
    | some i =>
      simp only [evBuildT]
      cases i.kind.isAgg with
      | false => rfl
      | true => simp only [buildK]; rw [fillParts_congr _ _ _ (fun x hx => hT x.2 (by simp only [List.mem_toArray]; exact List.mem_map_of_mem hx))]
  case buildSlice t n parts =>
    cases elemI te (te t) with
    | none => rfl
    | some i => simp only [evLitT]; rw [fillElems_congr true _ _ _ (fun x hx => hT x.2 (by simp only [List.mem_toArray]; exact List.mem_map_of_mem hx)), fillElems_congr false _ _ _ (fun x hx => hT x.2 (by simp only [List.mem_toArray]; exact List.mem_map_of_mem hx))]
  case load t a =>
    rw [← hT a (by simp)]
    cases te t with
    | none => rfl
    | some i => simp only [evLoadT]; exact evLoad_congr hH _ _
  case store t a x =>
    rw [← hT a (by simp), ← hT x (by simp)]
    cases te t with
    | none => rfl
    | some i => simp only [evStoreT]; exact evStore_congr hH _ _
  case binOp op t x y ty => rw [hT x (by simp), hT y (by simp)]
  case unOp op t x => rw [hT x (by simp)]
  case convert s d x => rw [hT x (by simp)]
  case makeSlice t l c => rw [hT l (by simp), hT c (by simp)]
  case slice t x lo hi mx =>
    have h1 : optInt (ev T) lo = optInt (ev T') lo := optInt_congr lo (fun y hy => hT y (by subst hy; simp))
    have h2 : optInt (ev T) hi = optInt (ev T') hi := optInt_congr hi (fun y hy => hT y (by subst hy; simp))
    have h3 : optInt (ev T) mx = optInt (ev T') mx := optInt_congr mx (fun y hy => hT y (by subst hy; simp))
    have hx : ev T x = ev T' x := hT x (by simp)
    simp only [opReads] at hH
    rw [← hx]
    cases te t with
    | none => rfl
    | some i =>
      simp only [evSliceT]
      cases i.kind with
      | slice e =>
        simp only [sliceK]
        cases te e with
        | none => rfl
        | some ie =>
          simp only [sliceE]
          rw [evSlice_congr hH]
          cases ev T x <;> simp only [evSlice, h1, h2, h3]
      | str => simp only [sliceK]; cases ev T x <;> simp only [evSliceS, h1, h2, h3]
      | _ => rfl
  case fieldAddr t x f => rw [hT x (by simp)]
  case field t x f => rw [hT x (by simp)]
  case indexAddr t x ix =>
    rw [← hT x (by simp), ← hT ix (by simp)]
    cases elemI te (te t) with
    | none => rfl
    | some i => simp only [evIndexAddrT]; exact evIndexAddr_congr hH _ _
  case index t x ix => rw [hT x (by simp), hT ix (by simp)]
  case extract x i => rw [hT x (by simp)]
  case nilCheck x => rw [hT x (by simp)]
  case call c =>
    obtain ⟨callee, args, tys⟩ := c
    cases callee with
    | builtin b =>
      simp only [Call.operands] at hT
      exact evBuiltin_congr b args.toList tys.toList (fun x hx => hT x (by simpa using hx)) hH
    | _ => rfl

end Go.Rf
