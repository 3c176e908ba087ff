/-
  Texts of the proof, put together: GreatDoorUa, GreatDoorUb, GreatDoorUc, GreatDoorUd.
-/
import Derived.Test.YtdojencjbmahpaaGreatDoorGg
import Derived.Test.YtdojencjbmahpaaGreatDoorGd
import Derived.Test.YtdojencjbmahpaaGreatDoorGe
/-
  Operations that ask: the contracts of slices.Contains, branch.Asks, and the reference's Asks; branch.parse.
-/
section
namespace Go.Proofs.YtdojencjbmahpaaGreatDoor
open Go.Rf
set_option maxRecDepth 100000
set_option linter.unusedVariables false
set_option linter.unusedSimpArgs false
theorem lt_of_nleI {a b : Int} (h : (!leI a b) = true) : b < a := by rw [not_leI] at h; exact of_decide_eq_true h
theorem le_of_nleI {a b : Int} (h : (!leI a b) = false) : a ≤ b := by rw [not_leI] at h; have := of_decide_eq_false h; omega
theorem le_of_leI {a b : Int} (h : leI a b = true) : a ≤ b := by rw [leI_dec] at h; exact of_decide_eq_true h
theorem lt_of_leI {a b : Int} (h : leI a b = false) : b < a := by rw [leI_dec] at h; have := of_decide_eq_false h; omega
theorem ne_of_bne {α : Type} [BEq α] [LawfulBEq α] {a b : α} (h : (a != b) = true) : a ≠ b := by simpa using h
theorem eq_of_nbne {α : Type} [BEq α] [LawfulBEq α] {a b : α} (h : (a != b) = false) : a = b := by simpa using h
theorem phi_eq {Φ : AV → Ent → Prop} {a b : AV} (h : Φ a .none) (e : b = a) : Φ b .none := e ▸ h
/-- A row of integers. -/
def AllI (es : List (List AV)) : Prop := ∀ e ∈ es, ∃ n, e = [.int .i64 n]
theorem allI_at {es : List (List AV)} (h : AllI es) {i : Nat} (hi : i < es.length) : ∃ n, es[i] = [.int .i64 n] ∧ cellAt es i 0 = .int .i64 n := by
  obtain ⟨n, hn⟩ := h es[i] (List.getElem_mem hi)
  refine ⟨n, hn, ?_⟩
  simp [cellAt, List.getD_eq_getElem?_getD, List.getElem?_eq_getElem hi, hn]
def ixI : List (List AV) → Int → Nat → Int
  | [], _, _ => -1
  | e :: es, k, i => if k = inI e then (i : Int) else ixI es k (i + 1)
def CIx : List AV → Prop
  | [.sl 1 false es, .int .i64 _] => AllI es ∧ es.length ≤ 1000000000
  | _ => False
def gIxI : List AV → AV
  | [.sl _ _ es, .int _ k] => .int .i64 (ixI es k 0)
  | _ => .junk
theorem isFun_87 : IsFun Tryz.prog 87 Tryz.f87 := ⟨Tryz.func87, by kernel_rfl, by kernel_rfl⟩
theorem v87 (es : List (List AV)) (k : Int) (Φ : AV → Ent → Prop) : wFunC te nGE' Tryz.f87 [(.sl 1 false es), (.int .i64 k)] [] (datFin Φ) = (wLoopC 0 (wCodeC te nGE' 0 (bodyAt Tryz.f87 [false, true, false, true, true])) ⟨((.sl 1 false es) :: ((.int .i64 k) :: (jk 2 ((.int .i64 0) :: (jk 1 ((.sl 1 false es) :: ((.int .i64 (es.length : Int)) :: ((.int .i64 0) :: (jk 10 []))))))))), []⟩ (blkQ 0 (seqQ (wCodeC te nGE' 0 (bodyAt Tryz.f87 [false, false])) (endQ te Tryz.f87 (datFin Φ))))) := by kernel_rfl
def t87 (es : List (List AV)) (k i : Int) : St := ⟨((.sl 1 false es) :: ((.int .i64 k) :: (jk 5 ((.int .i64 (es.length : Int)) :: ((.int .i64 i) :: (jk 10 [])))))), []⟩
def k87 : List Bool := [true, true, false, false, false, false, false, true, true, false, false, false, false, false, false, false, false, false, false]
theorem b87 (es : List (List AV)) (k i : Int) (K : KontX) (Φ : AV → Ent → Prop) : wCodeC te nGE' 0 (bodyAt Tryz.f87 [false, true, false, true, true]) (t87 es k i) (cutK ((endQ te Tryz.f87 (datFin Φ)) .ret) k87 0 K) = (ifB (!leI (es.length : Int) i) ((0 ≤ i ∧ i < (es.length : Int)) ∧ (∃ n1, cellAt es i.toNat 0 = (.int .i64 n1) ∧ (ifB (k == n1) (Φ (.int .i64 i) .none) (K .normal (t87 es k (IntKind.i64.wrap (i + 1))))))) (K (.exit 0) (t87 es k i))) := by kernel_rfl
theorem e87 (es : List (List AV)) (k i : Int) (Φ : AV → Ent → Prop) : wCodeC te nGE' 0 (bodyAt Tryz.f87 [false, false]) (t87 es k i) (endQ te Tryz.f87 (datFin Φ)) = (Φ (.int .i64 (-1)) .none) := by kernel_rfl
theorem s87 {es : List (List AV)} {k : Int} (ha : AllI es) (hl : es.length ≤ 1000000000) (Φ : AV → Ent → Prop) (h : Φ (.int .i64 (ixI es k 0)) .none) : wFunC te nGE' Tryz.f87 [.sl 1 false es, .int .i64 k] [] (datFin Φ) := by
  rw [v87]
  refine loopC k87 0 (fun n st => ∃ i : Nat, i + n = es.length ∧ st = t87 es k i ∧ ixI es k 0 = ixI (es.drop i) k i) (Nat.le_refl _) ⟨es.length, _, ⟨0, by omega, rfl, rfl⟩, reT_to k87 0 rfl (Nat.le_refl _) rfl⟩ ?_
  rintro n st ⟨i, hi, rfl, hinv⟩
  rw [b87]
  refine ifB_both (fun c1 => ?_) (fun c1 => ?_)
  · rw [not_leI] at c1
    have c1' := of_decide_eq_true c1
    have hlt : i < es.length := by omega
    obtain ⟨m, hm, hm0⟩ := allI_at ha hlt
    have hd : es.drop i = [.int .i64 m] :: es.drop (i + 1) := by rw [List.drop_eq_getElem_cons hlt, hm]
    rw [hd] at hinv
    have hw : IntKind.i64.wrap ((i : Int) + 1) = ((i + 1 : Nat) : Int) := by rw [IntWalk.i64_in _ (by omega)]; omega
    refine ⟨by omega, m, by rw [Int.toNat_natCast]; exact hm0, ifB_both (fun c2 => ?_) (fun c2 => ?_)⟩
    · have hk : k = m := eq_of_beq c2
      rw [hinv, ixI, if_pos (show k = inI [AV.int .i64 m] from hk)] at h
      exact h
    · have hk : k ≠ m := ne_of_beq_false c2
      rw [hw]
      refine rc_next (n - 1) (by omega) ⟨i + 1, by omega, rfl, ?_⟩
      rw [hinv, ixI, if_neg (show ¬ k = inI [AV.int .i64 m] from hk)]
  · rw [not_leI] at c1
    have c1' := of_decide_eq_false c1
    rw [List.drop_of_length_le (by omega), ixI] at hinv
    refine rc_exit ?_
    rw [e87]
    rw [hinv] at h
    exact h
theorem fn87 : SpecSound Tryz.prog 87 (.fn CIx gIxI) := dat_soundC te_ok nGE'_sound mixed isFun_87 (by
  rintro xs Φ ⟨hC, h⟩
  unfold CIx at hC
  split at hC
  · exact s87 hC.1 hC.2 Φ h
  · cases hC)
def gCtI : List AV → AV
  | [.sl _ _ es, .int _ k] => .bool (leI 0 (ixI es k 0))
  | _ => .junk
theorem isFun_53 : IsFun Tryz.prog 53 Tryz.f53 := ⟨Tryz.func53, by kernel_rfl, by kernel_rfl⟩
def GE53 : GE := fun f => match f with
  | 87 => some (.fn CIx gIxI)
  | _ => none
theorem GE53_sound : Sound Tryz.prog GE53 := by
  intro f sp h
  unfold GE53 at h
  split at h
  · cases h; exact fn87
  · cases h
theorem v53 (es : List (List AV)) (k : Int) (Φ : AV → Ent → Prop) : wFunC te GE53 Tryz.f53 [(.sl 1 false es), (.int .i64 k)] [] (datFin Φ) = (CIx [(.sl 1 false es), (.int .i64 k)] ∧ (Φ (.bool (leI 0 (ixI es k 0))) .none)) := by kernel_rfl
theorem fn53 : SpecSound Tryz.prog 53 (.fn CIx gCtI) := dat_soundC te_ok GE53_sound mixed isFun_53 (by
  rintro xs Φ ⟨hC, h⟩
  unfold CIx at hC
  split at hC
  · rw [v53]; exact ⟨hC, h⟩
  · cases hC)
/-- Does an operation of a kind ask? -/
def asksK (k : Int) : Bool := k == 8 || (k == 11 || (k == 12 || k == 14))
def COp : List AV → Prop
  | [.agg [.int .i64 _, .str _, .str _, .int .i64 _, .int .i64 _, .int .i64 _, .sl 1 false _]] => True
  | _ => False
def gAsks : List AV → AV
  | [.agg (.int _ k :: _)] => .bool (asksK k)
  | _ => .junk
theorem asks_ix (k : Int) : leI 0 (ixI [[.int .i64 8], [.int .i64 11], [.int .i64 12], [.int .i64 14]] k 0) = asksK k := by
  unfold asksK
  show leI 0 (if k = 8 then ((0 : Nat) : Int) else if k = 11 then ((0 + 1 : Nat) : Int) else if k = 12 then ((0 + 1 + 1 : Nat) : Int) else if k = 14 then ((0 + 1 + 1 + 1 : Nat) : Int) else -1) = _
  by_cases h1 : k = 8
  · subst h1; rfl
  · by_cases h2 : k = 11
    · subst h2; rfl
    · by_cases h3 : k = 12
      · subst h3; rfl
      · by_cases h4 : k = 14
        · subst h4; rfl
        · rw [if_neg h1, if_neg h2, if_neg h3, if_neg h4, beq_false_of_ne h1, beq_false_of_ne h2, beq_false_of_ne h3, beq_false_of_ne h4]; rfl
theorem isFun_24 : IsFun Tryz.prog 24 Tryz.f24 := ⟨Tryz.func24, by kernel_rfl, by kernel_rfl⟩
def GE24 : GE := fun f => match f with
  | 53 => some (.fn CIx gCtI)
  | _ => none
theorem GE24_sound : Sound Tryz.prog GE24 := by
  intro f sp h
  unfold GE24 at h
  split at h
  · cases h; exact fn53
  · cases h
theorem v24 (ok : Int) (op ot : ByteArray) (om oa on : Int) (od : List (List AV)) (Φ : AV → Ent → Prop) : wFunC te GE24 Tryz.f24 [(.agg [(.int .i64 ok), (.str op), (.str ot), (.int .i64 om), (.int .i64 oa), (.int .i64 on), (.sl 1 false od)])] [] (datFin Φ) = (CIx [(.sl 1 false [[(.int .i64 8)], [(.int .i64 11)], [(.int .i64 12)], [(.int .i64 14)]]), (.int .i64 ok)] ∧ (Φ (.bool (leI 0 (ixI [[(.int .i64 8)], [(.int .i64 11)], [(.int .i64 12)], [(.int .i64 14)]] ok 0))) .none)) := by kernel_rfl
theorem fn24 : SpecSound Tryz.prog 24 (.fn COp gAsks) := dat_soundC te_ok GE24_sound mixed isFun_24 (by
  rintro xs Φ ⟨hC, h⟩
  unfold COp at hC
  split at hC
  · rename_i ok op ot om oa on od
    rw [v24, asks_ix]
    exact ⟨⟨by intro e he; simp at he; rcases he with rfl | rfl | rfl | rfl <;> exact ⟨_, rfl⟩, by decide⟩, h⟩
  · cases hC)
theorem isFun_25 : IsFun Tryz.prog 25 Tryz.f25 := ⟨Tryz.func25, by kernel_rfl, by kernel_rfl⟩
theorem v25 (ok : Int) (op ot : ByteArray) (om oa on : Int) (od : List (List AV)) (Φ : AV → Ent → Prop) : wFunC te nGE' Tryz.f25 [(.agg [(.int .i64 ok), (.str op), (.str ot), (.int .i64 om), (.int .i64 oa), (.int .i64 on), (.sl 1 false od)])] [] (datFin Φ) = (ifB (ok == 8) (Φ (.bool true) .none) (ifB (ok == 11) (Φ (.bool true) .none) (ifB (ok == 12) (Φ (.bool true) .none) (Φ (.bool (ok == 14)) .none)))) := by kernel_rfl
theorem fn25 : SpecSound Tryz.prog 25 (.fn COp gAsks) := dat_soundC te_ok nGE'_sound mixed isFun_25 (by
  rintro xs Φ ⟨hC, h⟩
  unfold COp at hC
  split at hC
  · rename_i ok op ot om oa on od
    have h' : Φ (.bool (asksK ok)) .none := h
    rw [v25]
    unfold asksK at h'
    refine ifB_both (fun c1 => ?_) (fun c1 => ifB_both (fun c2 => ?_) (fun c2 => ifB_both (fun c3 => ?_) (fun c3 => ?_)))
    · rw [c1] at h'; exact h'
    · rw [c1, c2] at h'; exact h'
    · rw [c1, c2, c3] at h'; exact h'
    · rw [c1, c2, c3] at h'; exact h'
  · cases hC)
/-- An operation's paths. -/
def parseO (k : Int) (p t : ByteArray) : (List ByteArray × List ByteArray) × Int :=
  if k < 1 ∨ 14 < k then (([], []), 1) else if (parseP p).2 = 0 ∧ (k = 3 ∨ k = 6) then (((parseP p).1, (parseP t).1), (parseP t).2) else (((parseP p).1, []), (parseP p).2)
def COpP : List AV → Prop
  | [.agg [.int .i64 _, .str p, .str t, .int .i64 _, .int .i64 _, .int .i64 _, .sl 1 false _]] => p.size ≤ 1000000000 ∧ t.size ≤ 1000000000
  | _ => False
def gParseO : List AV → AV
  | [.agg (.int _ k :: .str p :: .str t :: _)] => .tup [.sl 1 false (rowsT (parseO k p t).1.1), .sl 1 false (rowsT (parseO k p t).1.2), .int .i64 (parseO k p t).2]
  | _ => .junk
theorem isFun_41 : IsFun Tryz.prog 41 Tryz.f41 := ⟨Tryz.func41, by kernel_rfl, by kernel_rfl⟩
def GE41 : GE := fun f => match f with
  | 64 => some (.fn CParse gParse)
  | _ => none
theorem GE41_sound : Sound Tryz.prog GE41 := by
  intro f sp h
  unfold GE41 at h
  split at h
  · cases h; exact fn64
  · cases h
theorem v41 (ok : Int) (op ot : ByteArray) (om oa on : Int) (od : List (List AV)) (Φ : AV → Ent → Prop) : wFunC te GE41 Tryz.f41 [(.agg [(.int .i64 ok), (.str op), (.str ot), (.int .i64 om), (.int .i64 oa), (.int .i64 on), (.sl 1 false od)])] [] (datFin Φ) = (ifB (!leI 1 ok) (Φ (.tup [(.sl 1 false ([] : List (List AV))), (.sl 1 false ([] : List (List AV))), (.int .i64 1)]) .none) (ifB (!leI ok 14) (Φ (.tup [(.sl 1 false ([] : List (List AV))), (.sl 1 false ([] : List (List AV))), (.int .i64 1)]) .none) (CParse [(.str op)] ∧ (ifB ((parseP op).2 == 0) (ifB (ok == 3) (CParse [(.str ot)] ∧ (Φ (.tup [(.sl 1 false (rowsT (parseP op).1)), (.sl 1 false (rowsT (parseP ot).1)), (.int .i64 (parseP ot).2)]) .none)) (ifB (ok == 6) (CParse [(.str ot)] ∧ (Φ (.tup [(.sl 1 false (rowsT (parseP op).1)), (.sl 1 false (rowsT (parseP ot).1)), (.int .i64 (parseP ot).2)]) .none)) (Φ (.tup [(.sl 1 false (rowsT (parseP op).1)), (.sl 1 false ([] : List (List AV))), (.int .i64 (parseP op).2)]) .none))) (Φ (.tup [(.sl 1 false (rowsT (parseP op).1)), (.sl 1 false ([] : List (List AV))), (.int .i64 (parseP op).2)]) .none))))) := by kernel_rfl
theorem fn41 : SpecSound Tryz.prog 41 (.fn COpP gParseO) := dat_soundC te_ok GE41_sound mixed isFun_41 (by
  rintro xs Φ ⟨hC, h⟩
  unfold COpP at hC
  split at hC
  · rename_i ok op ot om oa on od
    have h' : Φ (.tup [.sl 1 false (rowsT (parseO ok op ot).1.1), .sl 1 false (rowsT (parseO ok op ot).1.2), .int .i64 (parseO ok op ot).2]) .none := h
    rw [v41]
    unfold parseO at h'
    refine ifB_both (fun c1 => ?_) (fun c1 => ifB_both (fun c2 => ?_) (fun c2 => ⟨hC.1, ifB_both (fun c3 => ifB_both (fun c4 => ⟨hC.2, ?_⟩) (fun c4 => ifB_both (fun c5 => ⟨hC.2, ?_⟩) (fun c5 => ?_))) (fun c3 => ?_)⟩))
    · rw [if_pos (.inl (lt_of_nleI c1))] at h'; exact h'
    · rw [if_pos (.inr (lt_of_nleI c2))] at h'; exact h'
    · rw [if_neg (by have := le_of_nleI c1; have := le_of_nleI c2; omega), if_pos ⟨eq_of_beq c3, .inl (eq_of_beq c4)⟩] at h'; exact h'
    · rw [if_neg (by have := le_of_nleI c1; have := le_of_nleI c2; omega), if_pos ⟨eq_of_beq c3, .inr (eq_of_beq c5)⟩] at h'; exact h'
    · rw [if_neg (by have := le_of_nleI c1; have := le_of_nleI c2; omega), if_neg (fun hh => hh.2.elim (ne_of_beq_false c4) (ne_of_beq_false c5))] at h'; exact h'
    · rw [if_neg (by have := le_of_nleI c1; have := le_of_nleI c2; omega), if_neg (fun hh => ne_of_beq_false c3 hh.1)] at h'; exact h'
  · cases hC)
end Go.Proofs.YtdojencjbmahpaaGreatDoor
end
/-
  What asks: the contract of branch's 'holds' where the operation asks.
-/
section
namespace Go.Proofs.YtdojencjbmahpaaGreatDoor
open Go.Rf
set_option maxRecDepth 100000
set_option linter.unusedVariables false
set_option linter.unusedSimpArgs false
theorem no_sound {P : Program} {f : FuncId} {g : List AV → AV} : SpecSound P f (.fn (fun _ => False) g) := by
  rintro w S ρ xs args Φ hS hargs ⟨h, _⟩
  exact h.elim
theorem cells_cells (r : List AV) : nI (cells r) 1 = nI r 1 := rfl
theorem isNode_walk {es : List (List AV)} (h : IsNodes es) : ∀ (l : List (List AV)) {cur : List AV}, IsNode cur → IsNode (walkN es cur l).1
  | [], cur, hc => hc
  | s :: l, cur, hc => by
    unfold walkN
    split
    · split
      · exact isNode_walk h l (isNode_row h _)
      · exact isNode_z
    · exact isNode_z
theorem isNode_node {es : List (List AV)} (h : IsNodes es) (ls : List (List AV)) : IsNode (nodeN es ls).1 := isNode_walk h ls (isNode_row h 1)
def gFN' : List AV → AV
  | [.agg [_, _, _, .sl _ _ es], .sl _ _ ls] => .tup [.agg [.int .i64 (nI (nodeN es ls).1 0), .int .i64 (nI (nodeN es ls).1 1), .int .i64 (nI (nodeN es ls).1 2), .int .i64 (nI (nodeN es ls).1 3), .int .i64 (nI (nodeN es ls).1 4), .sl 2 false (sI (nodeN es ls).1 5), .str (bI (nodeN es ls).1), .sl 2 false (sI (nodeN es ls).1 7)], .int .i64 (nodeN es ls).2]
  | _ => .junk
theorem fn97' : SpecSound Tryz.prog 97 (.fn CFN gFN') := fn_congr fn97 fun xs h => by
  unfold CFN at h
  split at h
  · rename_i a b c fr es fl ls
    show AV.tup [.agg (cells (nodeN es ls).1), .int .i64 (nodeN es ls).2] = AV.tup [.agg (nodeN es ls).1, .int .i64 (nodeN es ls).2]
    rw [cells_of (isNode_node h.1 ls)]
  · cases h
def gInfo' : List AV → AV
  | [.agg [_, _, _, .sl _ _ es], .int _ k] => .agg [.int .i64 (nI (infoR es k) 0), .int .i64 (nI (infoR es k) 1), .int .i64 (nI (infoR es k) 2), .int .i64 (nI (infoR es k) 3), .int .i64 (nI (infoR es k) 4)]
  | _ => .junk
theorem info_cells (es : List (List AV)) (k : Int) : [.int .i64 (nI (infoR es k) 0), .int .i64 (nI (infoR es k) 1), .int .i64 (nI (infoR es k) 2), .int .i64 (nI (infoR es k) 3), .int .i64 (nI (infoR es k) 4)] = infoR es k := by
  unfold infoR
  split <;> rfl
theorem fn110' : SpecSound Tryz.prog 110 (.fn CPN gInfo') := fn_congr fn110 fun xs h => by
  unfold CPN at h
  split at h
  · rename_i a b c fr es k
    exact congrArg AV.agg (info_cells es k)
  · cases h
def gNo : List AV → AV := fun _ => .tup [.agg [.int .i64 0, .int .i64 0, .int .i64 0, .sl 8 false []], .int .i64 0]
/-- A node's cells, told one by one. -/
def nA (r : List AV) : AV := .agg (cells r)
def iA (r : List AV) : AV := .agg [.int .i64 (nI r 0), .int .i64 (nI r 1), .int .i64 (nI r 2), .int .i64 (nI r 3), .int .i64 (nI r 4)]
def dA (a b c : Int) (es : List (List AV)) : AV := .agg [(.int .i64 a), (.int .i64 b), (.int .i64 c), (.sl 8 false es)]
def oA (ok : Int) (op ot : ByteArray) (om oa on : Int) (od : List (List AV)) : AV := .agg [(.int .i64 ok), (.str op), (.str ot), (.int .i64 om), (.int .i64 oa), (.int .i64 on), (.sl 1 false od)]
def dV (a b c : Int) (es : List (List AV)) : Ent := .var [(.int .i64 a), (.int .i64 b), (.int .i64 c), (.sl 8 false es)]
def oV (ok : Int) (op ot : ByteArray) (om oa on : Int) (od : List (List AV)) : Ent := .var [(.int .i64 ok), (.str op), (.str ot), (.int .i64 om), (.int .i64 oa), (.int .i64 on), (.sl 1 false od)]
def zV  : Ent := .var [(.int .i64 0), (.int .i64 0), (.int .i64 0), (.sl 8 true ([] : List (List AV)))]
def rV  : Ent := .var [(.sl 1 true ([] : List (List AV))), (.sl 1 true ([] : List (List AV))), (.int .i64 0), (.int .i64 0), (.int .i64 0), (.int .i64 0), (.int .i64 0)]
def cV (a b c : Int) (es : List (List AV)) (ok : Int) (op ot : ByteArray) (om oa on : Int) (od : List (List AV)) (ls ts : List (List AV)) (rd rn : List (List AV)) (i0 i1 i2 i3 i4 : Int) : Ent := .var [(.int .i64 a), (.int .i64 b), (.int .i64 c), (.sl 8 false es), (.int .i64 ok), (.str op), (.str ot), (.int .i64 om), (.int .i64 oa), (.int .i64 on), (.sl 1 false od), (.sl 1 false ls), (.sl 1 false ts), (.sl 1 false rd), (.sl 1 false rn), (.int .i64 i0), (.int .i64 i1), (.int .i64 i2), (.int .i64 i3), (.int .i64 i4)]
def cZ (a b c : Int) (es : List (List AV)) (ok : Int) (op ot : ByteArray) (om oa on : Int) (od : List (List AV)) (ls ts : List (List AV)) : Ent := .var [(.int .i64 a), (.int .i64 b), (.int .i64 c), (.sl 8 false es), (.int .i64 ok), (.str op), (.str ot), (.int .i64 om), (.int .i64 oa), (.int .i64 on), (.sl 1 false od), (.sl 1 false ls), (.sl 1 false ts), (.sl 1 true ([] : List (List AV))), (.sl 1 true ([] : List (List AV))), (.int .i64 0), (.int .i64 0), (.int .i64 0), (.int .i64 0), (.int .i64 0)]
theorem isFun_69 : IsFun Tryz.prog 69 Tryz.f69 := ⟨Tryz.func69, by kernel_rfl, by kernel_rfl⟩
def GE69 : GE := fun f => match f with
  | 97 => some (.fn CFN gFN')
  | 106 => some (.fn (fun _ => False) gNo)
  | 107 => some (.fn CKR gKR)
  | 108 => some (.fn (fun _ => False) gNo)
  | 109 => some (.fn (fun _ => False) gNo)
  | 110 => some (.fn CPN gInfo')
  | _ => none
theorem GE69_sound : Sound Tryz.prog GE69 := by
  intro f sp h
  unfold GE69 at h
  split at h
  · cases h; exact fn97'
  · cases h; exact no_sound
  · cases h; exact fn107
  · cases h; exact no_sound
  · cases h; exact no_sound
  · cases h; exact fn110'
  · cases h
theorem v69 (a b c : Int) (es : List (List AV)) (ok : Int) (op ot : ByteArray) (om oa on : Int) (od : List (List AV)) (ls ts : List (List AV)) (Φ : AV → List Ent → Prop) : wFunC te GE69 Tryz.f69 [(.ptr 4 0)] [(dV a b c es), (oV ok op ot om oa on od), zV, rV, (cZ a b c es ok op ot om oa on od ls ts)] (keepFin 4 Φ) = (CFN [(dA a b c es), (.sl 1 false ls)] ∧ (ifB ((nodeN es ls).2 != 0) (True ∧ true = true ∧ (Φ (.int .i64 (nodeN es ls).2) [(dV a b c es), (oV ok op ot om oa on od), zV, rV, (cV a b c es ok op ot om oa on od ls ts ([] : List (List AV)) ([] : List (List AV)) 0 0 0 0 0)])) (ifB (ok == 7) (False ∧ (True ∧ true = true ∧ (Φ (.int .i64 0) [(dV a b c es), (oV ok op ot om oa on od), zV, rV, (cV 0 0 0 ([] : List (List AV)) ok op ot om oa on od ls ts ([] : List (List AV)) ([] : List (List AV)) 0 0 0 0 0)]))) (ifB (ok == 8) (CKR [(dA a b c es), (.int .i64 (nI (nodeN es ls).1 0)), (.int .i64 oa), (.int .i64 on)] ∧ (True ∧ true = true ∧ (Φ (.int .i64 (keepRead es (nI (nodeN es ls).1 0) oa on).2) [(dV a b c es), (oV ok op ot om oa on od), zV, rV, (cV a b c es ok op ot om oa on od ls ts ((keepRead es (nI (nodeN es ls).1 0) oa on).1) ([] : List (List AV)) 0 0 0 0 0)]))) (ifB (ok == 9) (False ∧ (True ∧ true = true ∧ (Φ (.int .i64 0) [(dV a b c es), (oV ok op ot om oa on od), zV, rV, (cV 0 0 0 ([] : List (List AV)) ok op ot om oa on od ls ts ([] : List (List AV)) ([] : List (List AV)) 0 0 0 0 0)]))) (ifB (ok == 10) (False ∧ (True ∧ true = true ∧ (Φ (.int .i64 0) [(dV a b c es), (oV ok op ot om oa on od), zV, rV, (cV 0 0 0 ([] : List (List AV)) ok op ot om oa on od ls ts ([] : List (List AV)) ([] : List (List AV)) 0 0 0 0 0)]))) (ifB (ok == 11) (CPN [(dA a b c es), (.int .i64 (nI (nodeN es ls).1 0))] ∧ (True ∧ true = true ∧ (Φ (.int .i64 (nodeN es ls).2) [(dV a b c es), (oV ok op ot om oa on od), zV, rV, (cV a b c es ok op ot om oa on od ls ts ([] : List (List AV)) ([] : List (List AV)) (nI (infoR es (nI (nodeN es ls).1 0)) 0) (nI (infoR es (nI (nodeN es ls).1 0)) 1) (nI (infoR es (nI (nodeN es ls).1 0)) 2) (nI (infoR es (nI (nodeN es ls).1 0)) 3) (nI (infoR es (nI (nodeN es ls).1 0)) 4))]))) (ifB (ok == 12) (ifB ((nI (nodeN es ls).1 1) != 2) (True ∧ true = true ∧ (Φ (.int .i64 4) [(dV a b c es), (oV ok op ot om oa on od), zV, rV, (cV a b c es ok op ot om oa on od ls ts ([] : List (List AV)) ([] : List (List AV)) 0 0 0 0 0)])) (wLoopC 5 (wCodeC te GE69 5 (bodyAt Tryz.f69 [false, false, false, true, false, true, false, false, false, false, false, false, false, false, false, false, false, true, false, false, true, true])) ⟨((.ptr 4 0) :: (jk 1 ((.int .i64 (nodeN es ls).2) :: ((.ptr 17 0) :: (jk 2 ((.tup [(nA ((nodeN es ls).1)), (.int .i64 (nodeN es ls).2)]) :: ((.ptr 4 0) :: ((.ptr 4 0) :: ((.ptr 4 0) :: ((dA a b c es) :: ((.ptr 4 0) :: ((.ptr 4 0) :: ((.ptr 4 11) :: ((.sl 1 false ls) :: ((.tup [(nA ((nodeN es ls).1)), (.int .i64 (nodeN es ls).2)]) :: ((nA ((nodeN es ls).1)) :: ((.int .i64 (nodeN es ls).2) :: ((.int .i64 (nodeN es ls).2) :: ((.bool ((nodeN es ls).2 != 0)) :: (jk 1 ((.ptr 4 0) :: ((.ptr 4 0) :: ((.ptr 4 4) :: ((.ptr 4 4) :: ((.int .i64 ok) :: (jk 10 ((.bool (ok == 7)) :: ((.bool (ok == 7)) :: (jk 23 ((.bool (ok == 8)) :: ((.bool (ok == 8)) :: (jk 24 ((.bool (ok == 9)) :: ((.bool (ok == 9)) :: (jk 18 ((.bool (ok == 10)) :: ((.bool (ok == 10)) :: (jk 18 ((.bool (ok == 11)) :: ((.bool (ok == 11)) :: (jk 11 ((.bool (ok == 12)) :: ((.bool (ok == 12)) :: ((.ptr 17 1) :: ((.int .i64 (nI (nodeN es ls).1 1)) :: ((.bool ((nI (nodeN es ls).1 1) != 2)) :: ((.ptr 17 7) :: ((.sl 2 false (sI (nodeN es ls).1 7)) :: ((.int .i64 ((sI (nodeN es ls).1 7).length : Int)) :: ((.int .i64 0) :: (jk 18 []))))))))))))))))))))))))))))))))))))))))))))))))))), [(dV a b c es), (oV ok op ot om oa on od), zV, rV, (cZ a b c es ok op ot om oa on od ls ts), .none, .none, .none, .none, .none, .none, .none, .none, .none, .none, .none, .none, (.var [(.int .i64 (nI (nodeN es ls).1 0)), (.int .i64 (nI (nodeN es ls).1 1)), (.int .i64 (nI (nodeN es ls).1 2)), (.int .i64 (nI (nodeN es ls).1 3)), (.int .i64 (nI (nodeN es ls).1 4)), (.sl 2 false (sI (nodeN es ls).1 5)), (.str (bI (nodeN es ls).1)), (.sl 2 false (sI (nodeN es ls).1 7))]), .none]⟩ (blkQ 1 (blkQ 0 (seqQ (wCodeC te GE69 5 (bodyAt Tryz.f69 [false, false, false, false])) (endQ te Tryz.f69 (keepFin 4 Φ))))))) (ifB ((nI (nodeN es ls).1 1) != 3) (True ∧ true = true ∧ (Φ (.int .i64 1) [(dV a b c es), (oV ok op ot om oa on od), zV, rV, (cV a b c es ok op ot om oa on od ls ts ([] : List (List AV)) ([] : List (List AV)) 0 0 0 0 0)])) (((bI (nodeN es ls).1).size ≤ 140737488355328) ∧ (True ∧ true = true ∧ (Φ (.int .i64 (nodeN es ls).2) [(dV a b c es), (oV ok op ot om oa on od), zV, rV, (cV a b c es ok op ot om oa on od ls ts (bytesAV (bI (nodeN es ls).1)) ([] : List (List AV)) 0 0 0 0 0)])))))))))))) := by kernel_rfl
def t69 (a b c : Int) (es : List (List AV)) (ok : Int) (op ot : ByteArray) (om oa on : Int) (od : List (List AV)) (ls ts : List (List AV)) (e : Int) (nm : List (List AV)) (i : Int) (v m : Nat) (ns : List (List AV)) : St := ⟨((.ptr 4 0) :: (jk 1 ((.int .i64 e) :: (jk 143 ((.sl 2 false nm) :: ((.int .i64 (nm.length : Int)) :: ((.int .i64 i) :: (jk 18 [])))))))), [(dV a b c es), (oV ok op ot om oa on od), zV, rV, (.var [(.int .i64 a), (.int .i64 b), (.int .i64 c), (.sl 8 false es), (.int .i64 ok), (.str op), (.str ot), (.int .i64 om), (.int .i64 oa), (.int .i64 on), (.sl 1 false od), (.sl 1 false ls), (.sl 1 false ts), (.sl 1 true ([] : List (List AV))), (.own 5 v m), (.int .i64 0), (.int .i64 0), (.int .i64 0), (.int .i64 0), (.int .i64 0)]), (.arr true v 1 none ns)]⟩
def k69 : List Bool := [true, false, true, false, false, false, false, false, false, false, false, false, false, false, false, false, false, false, false, false, false, false, false, false, false, false, false, false, false, false, false, false, false, false, false, false, false, false, false, false, false, false, false, false, false, false, false, false, false, false, false, false, false, false, false, false, false, false, false, false, false, false, false, false, false, false, false, false, false, false, false, false, false, false, false, false, false, false, false, false, false, false, false, false, false, false, false, false, false, false, false, false, false, false, false, false, false, false, false, false, false, false, false, false, false, false, false, false, false, false, false, false, false, false, false, false, false, false, false, false, false, false, false, false, false, false, false, false, false, false, false, false, false, false, false, false, false, false, false, false, false, false, false, false, false, false, true, true, true, false, false, false, false, false, false, false, false, false, false, false, false, false, false, false, false, false, false]
theorem b69 (a b c : Int) (es : List (List AV)) (ok : Int) (op ot : ByteArray) (om oa on : Int) (od : List (List AV)) (ls ts : List (List AV)) (e : Int) (nm : List (List AV)) (i : Int) (v m : Nat) (ns : List (List AV)) (K : KontX) (Φ : AV → List Ent → Prop) : wCodeC te GE69 5 (bodyAt Tryz.f69 [false, false, false, true, false, true, false, false, false, false, false, false, false, false, false, false, false, true, false, false, true, true]) (t69 a b c es ok op ot om oa on od ls ts e nm i v m ns) (cutK ((endQ te Tryz.f69 (keepFin 4 Φ)) .ret) k69 6 K) = (ifB (!leI (nm.length : Int) i) ((0 ≤ i ∧ i < (nm.length : Int)) ∧ (∃ s2, cellAt nm i.toNat 0 = (.str s2) ∧ ∃ n3, cellAt nm i.toNat 1 = (.int .i64 n3) ∧ ((fits 1 1 [[(.str s2)]] = true ∧ v = v ∧ m = ns.length ∧ room (ns.length + 1) 16) ∧ (K .normal (t69 a b c es ok op ot om oa on od ls ts e nm (IntKind.i64.wrap (i + 1)) (v + 1) (ns.length + 1) (ns ++ [[(.str s2)]])))))) (K (.exit 1) (t69 a b c es ok op ot om oa on od ls ts e nm i v m ns))) := by kernel_rfl
theorem e69 (a b c : Int) (es : List (List AV)) (ok : Int) (op ot : ByteArray) (om oa on : Int) (od : List (List AV)) (ls ts : List (List AV)) (e : Int) (nm : List (List AV)) (i : Int) (v m : Nat) (ns : List (List AV)) (Φ : AV → List Ent → Prop) : wCodeC te GE69 5 (bodyAt Tryz.f69 [false, false, false, false]) (t69 a b c es ok op ot om oa on od ls ts e nm i v m ns) (endQ te Tryz.f69 (keepFin 4 Φ)) = (True ∧ true = true ∧ ((v = v ∧ m = ns.length) ∧ (Φ (.int .i64 e) [(dV a b c es), (oV ok op ot om oa on od), zV, rV, (cV a b c es ok op ot om oa on od ls ts ([] : List (List AV)) ns 0 0 0 0 0)]))) := by kernel_rfl
def t69z (a b c : Int) (es : List (List AV)) (ok : Int) (op ot : ByteArray) (om oa on : Int) (od : List (List AV)) (ls ts : List (List AV)) (e : Int) (nm : List (List AV)) (i : Int) : St := ⟨(t69 a b c es ok op ot om oa on od ls ts e nm i 0 0 []).T, [dV a b c es, oV ok op ot om oa on od, zV, rV, cZ a b c es ok op ot om oa on od ls ts]⟩
def TgtOK (es : List (List AV)) : Prop := ∀ r ∈ es, (bI r).size ≤ 1000000000
theorem tgt_row {es : List (List AV)} (h : TgtOK es) (k : Int) : (bI (rowI es k)).size ≤ 1000000000 := by
  unfold rowI
  split
  · rename_i hf
    rw [List.getD_eq_getElem?_getD, List.getElem?_eq_getElem (fndI_lt hf)]
    exact h _ (List.getElem_mem _)
  · show (0 : Nat) ≤ _; omega
theorem tgt_walk {es : List (List AV)} (h : TgtOK es) : ∀ (l : List (List AV)) {cur : List AV}, (bI cur).size ≤ 1000000000 → (bI (walkN es cur l).1).size ≤ 1000000000
  | [], cur, hc => hc
  | s :: l, cur, hc => by
    unfold walkN
    split
    · split
      · exact tgt_walk h l (tgt_row h _)
      · show (0 : Nat) ≤ _; omega
    · show (0 : Nat) ≤ _; omega
theorem tgt_node {es : List (List AV)} (h : TgtOK es) (ls : List (List AV)) : (bI (nodeN es ls).1).size ≤ 1000000000 := tgt_walk h ls (tgt_row h 1)
def zInfo : List AV := [.int .i64 0, .int .i64 0, .int .i64 0, .int .i64 0, .int .i64 0]
/-- The names of names. -/
def nmsR (nm : List (List AV)) : List (List AV) := nm.map fun e => [.str (txN e)]
/-- What an operation that asks tells: its error, the reply. -/
def askR (es ls : List (List AV)) (ok oa on : Int) : Int × (List (List AV) × (List (List AV) × List AV)) :=
  if (nodeN es ls).2 ≠ 0 then ((nodeN es ls).2, [], [], zInfo)
  else if ok = 8 then ((keepRead es (nI (nodeN es ls).1 0) oa on).2, (keepRead es (nI (nodeN es ls).1 0) oa on).1, [], zInfo)
  else if ok = 11 then (0, [], [], infoR es (nI (nodeN es ls).1 0))
  else if ok = 12 then (if nI (nodeN es ls).1 1 ≠ 2 then (4, [], [], zInfo) else (0, [], nmsR (sI (nodeN es ls).1 7), zInfo))
  else (if nI (nodeN es ls).1 1 ≠ 3 then (1, [], [], zInfo) else (0, bytesAV (bI (nodeN es ls).1), [], zInfo))
theorem nms_len (nm : List (List AV)) : (nmsR nm).length = nm.length := by simp [nmsR]
theorem nms_take {nm : List (List AV)} (h : IsNames nm) {i : Nat} (hi : i < nm.length) {s : ByteArray} (hs : txN nm[i] = s) : nmsR (nm.take i) ++ [[.str s]] = nmsR (nm.take (i + 1)) := by
  unfold nmsR
  rw [List.take_add_one, List.getElem?_eq_getElem hi, List.map_append]
  show _ = _ ++ [[AV.str (txN nm[i])]]
  rw [hs]
/-- What the contract asks of a call's disk, its operation, its paths. -/
def AskOK (es ls : List (List AV)) (ok : Int) : Prop := IsNodes es ∧ TgtOK es ∧ AllTxt ls ∧ ls.length ≤ 1000000000 ∧ asksK ok = true
theorem asks_not {ok : Int} (h : asksK ok = true) {k : Int} (hk : k ≠ 8 ∧ k ≠ 11 ∧ k ≠ 12 ∧ k ≠ 14) (he : (ok == k) = true) : False := by
  have := eq_of_beq he
  subst this
  simp [asksK] at h
  omega
theorem s69 {a b c : Int} {es : List (List AV)} {ok : Int} {op ot : ByteArray} {om oa on : Int} {od ls ts : List (List AV)} (hc : AskOK es ls ok) (Φ : AV → List Ent → Prop)
    (h : Φ (.int .i64 (askR es ls ok oa on).1) [dV a b c es, oV ok op ot om oa on od, zV, rV, cV a b c es ok op ot om oa on od ls ts (askR es ls ok oa on).2.1 (askR es ls ok oa on).2.2.1 (nI (askR es ls ok oa on).2.2.2 0) (nI (askR es ls ok oa on).2.2.2 1) (nI (askR es ls ok oa on).2.2.2 2) (nI (askR es ls ok oa on).2.2.2 3) (nI (askR es ls ok oa on).2.2.2 4)]) :
    wFunC te GE69 Tryz.f69 [.ptr 4 0] [dV a b c es, oV ok op ot om oa on od, zV, rV, cZ a b c es ok op ot om oa on od ls ts] (keepFin 4 Φ) := by
  obtain ⟨hn, htg, htx, hll, hask⟩ := hc
  have hnode := isNode_node hn ls
  rw [v69]
  unfold askR at h
  refine ⟨⟨hn, htx, hll⟩, ifB_both (fun c1 => ?_) (fun c1 => ifB_both (fun c2 => ?_) (fun _ => ifB_both (fun c2 => ?_) (fun c2 => ifB_both (fun c3 => ?_) (fun _ => ifB_both (fun c3 => ?_) (fun _ => ifB_both (fun c3 => ?_) (fun c3 => ifB_both (fun c4 => ?_) (fun c4 => ?_)))))))⟩
  · rw [if_pos (ne_of_bne c1)] at h
    exact ⟨trivial, rfl, h⟩
  · exact (asks_not hask (by omega) c2).elim
  · rw [if_neg (fun hh => hh (eq_of_nbne c1)), if_pos (eq_of_beq c2)] at h
    exact ⟨hn, trivial, rfl, h⟩
  · exact (asks_not hask (by omega) c3).elim
  · exact (asks_not hask (by omega) c3).elim
  · rw [if_neg (fun hh => hh (eq_of_nbne c1)), if_neg (ne_of_beq_false c2), if_pos (eq_of_beq c3)] at h
    refine ⟨hn, trivial, rfl, ?_⟩
    rw [eq_of_nbne c1]
    exact h
  · rw [if_neg (fun hh => hh (eq_of_nbne c1)), if_neg (ne_of_beq_false c2), if_neg (ne_of_beq_false c3), if_pos (eq_of_beq c4)] at h
    refine ifB_both (fun c5 => ?_) (fun c5 => ?_)
    · rw [if_pos (ne_of_bne c5)] at h
      exact ⟨trivial, rfl, h⟩
    · rw [if_neg (fun hh => hh (eq_of_nbne c5))] at h
      have hnm : IsNames (sI (nodeN es ls).1 7) := node_names hnode
      generalize sI (nodeN es ls).1 7 = nm at *
      have hl := hnm.2.2
      refine loopQ (endQ te Tryz.f69 (keepFin 4 Φ) .ret) rfl k69 6 (fun n st => ∃ i v : Nat, i + n = nm.length ∧ st = t69 a b c es ok op ot om oa on od ls ts (nodeN es ls).2 nm i v i (nmsR (nm.take i))) (by omega)
        ⟨nm.length, t69 a b c es ok op ot om oa on od ls ts (nodeN es ls).2 nm (0 : Nat) 1 0 [], ⟨0, 1, by omega, rfl⟩,
          (reT_to (s' := t69z a b c es ok op ot om oa on od ls ts (nodeN es ls).2 nm (0 : Nat)) k69 5 rfl (by omega) rfl).trans (reT_adoptV (T := (t69z a b c es ok op ot om oa on od ls ts (nodeN es ls).2 nm (0 : Nat)).T) (H := (t69z a b c es ok op ot om oa on od ls ts (nodeN es ls).2 nm (0 : Nat)).H) 4 14 1 1 rfl rfl (by omega))⟩ ?_
      rintro n st ⟨i, v, hi, rfl⟩
      rw [b69]
      refine ifB_both (fun c6 => ?_) (fun c6 => ?_)
      · have c6' := lt_of_nleI c6
        have hlt : i < nm.length := by omega
        obtain ⟨s, k, hrow, h0, h1, htx', _⟩ := names_at hnm hlt
        have hw : IntKind.i64.wrap ((i : Int) + 1) = ((i + 1 : Nat) : Int) := by rw [IntWalk.i64_in _ (by omega)]; omega
        have hnl : (nmsR (nm.take i)).length = i := by rw [nms_len, List.length_take]; omega
        rw [hw]
        refine ⟨by omega, s, by rw [Int.toNat_natCast]; exact h0, k, by rw [Int.toNat_natCast]; exact h1, ⟨rfl, rfl, hnl.symm, by unfold room; omega⟩, rc_next (n - 1) (by omega) ⟨i + 1, v + 1, by omega, ?_⟩⟩
        rw [hnl, nms_take hnm hlt htx']
      · have c6' := le_of_nleI c6
        have hi' : i = nm.length := by omega
        refine rc_out (Eq.mpr (e69 ..) ⟨trivial, rfl, ⟨rfl, ?_⟩, ?_⟩)
        · rw [nms_len, List.length_take]; omega
        · rw [eq_of_nbne c1, hi', List.take_length]
          exact h
  · rw [if_neg (fun hh => hh (eq_of_nbne c1)), if_neg (ne_of_beq_false c2), if_neg (ne_of_beq_false c3), if_neg (ne_of_beq_false c4)] at h
    refine ifB_both (fun c5 => ?_) (fun c5 => ?_)
    · rw [if_pos (ne_of_bne c5)] at h
      exact ⟨trivial, rfl, h⟩
    · rw [if_neg (fun hh => hh (eq_of_nbne c5))] at h
      have := tgt_node htg ls
      refine ⟨by omega, trivial, rfl, ?_⟩
      rw [eq_of_nbne c1]
      exact h
/-- The contract of 'holds' where the operation asks. -/
def GHolds : GSpec := fun xs H Φ => match xs, H with
  | [.ptr 4 0], [e0, e1, e2, e3, .var [.int .i64 a, .int .i64 b, .int .i64 c, .sl 8 false es, .int .i64 ok, .str op, .str ot, .int .i64 om, .int .i64 oa, .int .i64 on, .sl 1 false od, .sl 1 false ls, .sl 1 false ts, .sl 1 true [], .sl 1 true [], .int .i64 0, .int .i64 0, .int .i64 0, .int .i64 0, .int .i64 0]] =>
    ((e0 = dV a b c es ∧ e1 = oV ok op ot om oa on od ∧ e2 = zV ∧ e3 = rV) ∧ AskOK es ls ok) ∧ Φ (.int .i64 (askR es ls ok oa on).1) [e0, e1, e2, e3, cV a b c es ok op ot om oa on od ls ts (askR es ls ok oa on).2.1 (askR es ls ok oa on).2.2.1 (nI (askR es ls ok oa on).2.2.2 0) (nI (askR es ls ok oa on).2.2.2 1) (nI (askR es ls ok oa on).2.2.2 2) (nI (askR es ls ok oa on).2.2.2 3) (nI (askR es ls ok oa on).2.2.2 4)]
  | _, _ => False
theorem gn69 : SpecSound Tryz.prog 69 (.gen GHolds) := gen_soundK te_ok GE69_sound mixed isFun_69 (by
  intro xs H Φ hG
  unfold GHolds at hG
  split at hG
  · obtain ⟨⟨⟨rfl, rfl, rfl, rfl⟩, hc⟩, h⟩ := hG
    exact ⟨4, rfl, s69 hc Φ h⟩
  · cases hG)
end Go.Proofs.YtdojencjbmahpaaGreatDoor
end
/-
  What asks: the contracts of branch's 'does' and branch.Do where nothing is written, or the operation asks.
-/
section
namespace Go.Proofs.YtdojencjbmahpaaGreatDoor
open Go.Rf
set_option maxRecDepth 100000
set_option linter.unusedVariables false
set_option linter.unusedSimpArgs false
theorem no_gen {P : Program} {f : FuncId} : SpecSound P f (.gen fun _ _ _ => False) := by
  intro w S ρ H xs args Φ _ _ h
  exact h.elim
theorem isFun_42 : IsFun Tryz.prog 42 Tryz.f42 := ⟨Tryz.func42, by kernel_rfl, by kernel_rfl⟩
def GE42 : GE := fun f => match f with
  | 65 => some (.gen fun _ _ _ => False)
  | 66 => some (.gen fun _ _ _ => False)
  | 67 => some (.gen fun _ _ _ => False)
  | 68 => some (.gen fun _ _ _ => False)
  | 69 => some (.gen GHolds)
  | _ => none
theorem GE42_sound : Sound Tryz.prog GE42 := by
  intro f sp h
  unfold GE42 at h
  split at h
  · cases h; exact no_gen
  · cases h; exact no_gen
  · cases h; exact no_gen
  · cases h; exact no_gen
  · cases h; exact gn69
  · cases h
theorem v42 (a b c : Int) (es : List (List AV)) (ok : Int) (op ot : ByteArray) (om oa on : Int) (od : List (List AV)) (ls ts : List (List AV)) (Φ : AV → List Ent → Prop) : wFunC te GE42 Tryz.f42 [(.ptr 4 0)] [(dV a b c es), (oV ok op ot om oa on od), zV, rV, (cZ a b c es ok op ot om oa on od ls ts)] (keepFin 4 Φ) = (ifB (ok == 1) False (ifB (ok == 2) False (ifB (ok == 13) False (ifB (ok == 4) (ifB (ok == 4) False (ifB (ok == 3) False (ifB (ok == 6) False ((((dV a b c es) = (dV a b c es) ∧ (oV ok op ot om oa on od) = (oV ok op ot om oa on od) ∧ zV = zV ∧ rV = rV) ∧ AskOK es ls ok) ∧ (True ∧ true = true ∧ (Φ (.int .i64 (askR es ls ok oa on).1) [(dV a b c es), (oV ok op ot om oa on od), zV, rV, (cV a b c es ok op ot om oa on od ls ts ((askR es ls ok oa on).2.1) ((askR es ls ok oa on).2.2.1) (nI (askR es ls ok oa on).2.2.2 0) (nI (askR es ls ok oa on).2.2.2 1) (nI (askR es ls ok oa on).2.2.2 2) (nI (askR es ls ok oa on).2.2.2 3) (nI (askR es ls ok oa on).2.2.2 4))])))))) (ifB (ok == 5) False (ifB (ok == 3) False (ifB (ok == 6) False ((((dV a b c es) = (dV a b c es) ∧ (oV ok op ot om oa on od) = (oV ok op ot om oa on od) ∧ zV = zV ∧ rV = rV) ∧ AskOK es ls ok) ∧ (True ∧ true = true ∧ (Φ (.int .i64 (askR es ls ok oa on).1) [(dV a b c es), (oV ok op ot om oa on od), zV, rV, (cV a b c es ok op ot om oa on od ls ts ((askR es ls ok oa on).2.1) ((askR es ls ok oa on).2.2.1) (nI (askR es ls ok oa on).2.2.2 0) (nI (askR es ls ok oa on).2.2.2 1) (nI (askR es ls ok oa on).2.2.2 2) (nI (askR es ls ok oa on).2.2.2 3) (nI (askR es ls ok oa on).2.2.2 4))])))))))))) := by kernel_rfl
theorem gn42 : SpecSound Tryz.prog 42 (.gen GHolds) := gen_soundK te_ok GE42_sound mixed isFun_42 (by
  intro xs H Φ hG
  unfold GHolds at hG
  split at hG
  · rename_i a b c es ok op ot om oa on od ls ts
    obtain ⟨⟨⟨rfl, rfl, rfl, rfl⟩, hc⟩, h⟩ := hG
    have hask := hc.2.2.2.2
    refine ⟨4, rfl, ?_⟩
    have hv := v42 a b c es ok op ot om oa on od ls ts Φ
    refine Eq.mpr hv ?_
    refine ifB_both (fun c1 => (asks_not hask (by omega) c1).elim) (fun _ => ifB_both (fun c1 => (asks_not hask (by omega) c1).elim) (fun _ => ifB_both (fun c1 => (asks_not hask (by omega) c1).elim) (fun _ => ?_)))
    refine ifB_both (fun c1 => (asks_not hask (by omega) c1).elim) (fun _ => ifB_both (fun c1 => (asks_not hask (by omega) c1).elim) (fun _ => ifB_both (fun c1 => (asks_not hask (by omega) c1).elim) (fun _ => ifB_both (fun c1 => (asks_not hask (by omega) c1).elim) (fun _ => ?_))))
    exact ⟨⟨⟨rfl, rfl, rfl, rfl⟩, hc⟩, trivial, rfl, h⟩
  · cases hG)
def rA (rd rn : List (List AV)) (i0 i1 i2 i3 i4 : Int) : AV := .agg [(.sl 1 false rd), (.sl 1 false rn), (.int .i64 i0), (.int .i64 i1), (.int .i64 i2), (.int .i64 i3), (.int .i64 i4)]
theorem isFun_17 : IsFun Tryz.prog 17 Tryz.f17 := ⟨Tryz.func17, by kernel_rfl, by kernel_rfl⟩
def GE17 : GE := fun f => match f with
  | 24 => some (.fn COp gAsks)
  | 41 => some (.fn COpP gParseO)
  | 42 => some (.gen GHolds)
  | _ => none
theorem GE17_sound : Sound Tryz.prog GE17 := by
  intro f sp h
  unfold GE17 at h
  split at h
  · cases h; exact fn24
  · cases h; exact fn41
  · cases h; exact gn42
  · cases h
theorem v17 (a b c : Int) (es : List (List AV)) (ro : Bool) (ok : Int) (op ot : ByteArray) (om oa on : Int) (od : List (List AV)) (Φ : AV → Ent → Prop) : wFunC te GE17 Tryz.f17 [(dA a b c es), (.bool ro), (oA ok op ot om oa on od)] [] (datFin Φ) = (COpP [(oA ok op ot om oa on od)] ∧ (ifB ((parseO ok op ot).2 == 0) (ifB ro (COp [(oA ok op ot om oa on od)] ∧ (ifB (!(asksK ok)) (Φ (.tup [(dA a b c es), (rA ([] : List (List AV)) ([] : List (List AV)) 0 0 0 0 0), (.int .i64 10)]) .none) (ifB ((parseO ok op ot).2 == 0) ((((dV a b c es) = (dV a b c es) ∧ (oV ok op ot om oa on od) = (oV ok op ot om oa on od) ∧ zV = zV ∧ rV = rV) ∧ AskOK es (rowsT (parseO ok op ot).1.1) ok) ∧ (ifB ((askR es (rowsT (parseO ok op ot).1.1) ok oa on).1 != 0) (Φ (.tup [(dA a b c es), (rA ([] : List (List AV)) ([] : List (List AV)) 0 0 0 0 0), (.int .i64 (askR es (rowsT (parseO ok op ot).1.1) ok oa on).1)]) .none) (Φ (.tup [(dA a b c es), (rA ((askR es (rowsT (parseO ok op ot).1.1) ok oa on).2.1) ((askR es (rowsT (parseO ok op ot).1.1) ok oa on).2.2.1) (nI (askR es (rowsT (parseO ok op ot).1.1) ok oa on).2.2.2 0) (nI (askR es (rowsT (parseO ok op ot).1.1) ok oa on).2.2.2 1) (nI (askR es (rowsT (parseO ok op ot).1.1) ok oa on).2.2.2 2) (nI (askR es (rowsT (parseO ok op ot).1.1) ok oa on).2.2.2 3) (nI (askR es (rowsT (parseO ok op ot).1.1) ok oa on).2.2.2 4)), (.int .i64 0)]) .none))) (ifB ((parseO ok op ot).2 != 0) (Φ (.tup [(dA a b c es), (rA ([] : List (List AV)) ([] : List (List AV)) 0 0 0 0 0), (.int .i64 (parseO ok op ot).2)]) .none) (Φ (.tup [(dA a b c es), (rA ([] : List (List AV)) ([] : List (List AV)) 0 0 0 0 0), (.int .i64 0)]) .none))))) (ifB ((parseO ok op ot).2 == 0) ((((dV a b c es) = (dV a b c es) ∧ (oV ok op ot om oa on od) = (oV ok op ot om oa on od) ∧ zV = zV ∧ rV = rV) ∧ AskOK es (rowsT (parseO ok op ot).1.1) ok) ∧ (ifB ((askR es (rowsT (parseO ok op ot).1.1) ok oa on).1 != 0) (Φ (.tup [(dA a b c es), (rA ([] : List (List AV)) ([] : List (List AV)) 0 0 0 0 0), (.int .i64 (askR es (rowsT (parseO ok op ot).1.1) ok oa on).1)]) .none) (Φ (.tup [(dA a b c es), (rA ((askR es (rowsT (parseO ok op ot).1.1) ok oa on).2.1) ((askR es (rowsT (parseO ok op ot).1.1) ok oa on).2.2.1) (nI (askR es (rowsT (parseO ok op ot).1.1) ok oa on).2.2.2 0) (nI (askR es (rowsT (parseO ok op ot).1.1) ok oa on).2.2.2 1) (nI (askR es (rowsT (parseO ok op ot).1.1) ok oa on).2.2.2 2) (nI (askR es (rowsT (parseO ok op ot).1.1) ok oa on).2.2.2 3) (nI (askR es (rowsT (parseO ok op ot).1.1) ok oa on).2.2.2 4)), (.int .i64 0)]) .none))) (ifB ((parseO ok op ot).2 != 0) (Φ (.tup [(dA a b c es), (rA ([] : List (List AV)) ([] : List (List AV)) 0 0 0 0 0), (.int .i64 (parseO ok op ot).2)]) .none) (Φ (.tup [(dA a b c es), (rA ([] : List (List AV)) ([] : List (List AV)) 0 0 0 0 0), (.int .i64 0)]) .none)))) (ifB ((parseO ok op ot).2 == 0) ((((dV a b c es) = (dV a b c es) ∧ (oV ok op ot om oa on od) = (oV ok op ot om oa on od) ∧ zV = zV ∧ rV = rV) ∧ AskOK es (rowsT (parseO ok op ot).1.1) ok) ∧ (ifB ((askR es (rowsT (parseO ok op ot).1.1) ok oa on).1 != 0) (Φ (.tup [(dA a b c es), (rA ([] : List (List AV)) ([] : List (List AV)) 0 0 0 0 0), (.int .i64 (askR es (rowsT (parseO ok op ot).1.1) ok oa on).1)]) .none) (Φ (.tup [(dA a b c es), (rA ((askR es (rowsT (parseO ok op ot).1.1) ok oa on).2.1) ((askR es (rowsT (parseO ok op ot).1.1) ok oa on).2.2.1) (nI (askR es (rowsT (parseO ok op ot).1.1) ok oa on).2.2.2 0) (nI (askR es (rowsT (parseO ok op ot).1.1) ok oa on).2.2.2 1) (nI (askR es (rowsT (parseO ok op ot).1.1) ok oa on).2.2.2 2) (nI (askR es (rowsT (parseO ok op ot).1.1) ok oa on).2.2.2 3) (nI (askR es (rowsT (parseO ok op ot).1.1) ok oa on).2.2.2 4)), (.int .i64 0)]) .none))) (ifB ((parseO ok op ot).2 != 0) (Φ (.tup [(dA a b c es), (rA ([] : List (List AV)) ([] : List (List AV)) 0 0 0 0 0), (.int .i64 (parseO ok op ot).2)]) .none) (Φ (.tup [(dA a b c es), (rA ([] : List (List AV)) ([] : List (List AV)) 0 0 0 0 0), (.int .i64 0)]) .none))))) := by kernel_rfl
theorem foldP_len : ∀ (ps l m : List ByteArray), foldP ps l = some m → l.length ≤ 16 → m.length ≤ 16
  | [], l, m, h, hl => by cases h; exact hl
  | p :: ps, l, m, h, hl => by
    unfold foldP at h
    split at h
    · rename_i m' hm
      exact foldP_len ps m' m h (stepP_len hm hl)
    · cases h
theorem parseP_len (s : ByteArray) : (parseP s).1.length ≤ 16 := by
  unfold parseP
  split
  · simp
  · split
    · simp
    · split
      · simp
      · split
        · rename_i l h
          exact foldP_len _ _ _ h (by simp)
        · simp
theorem parseO_len (k : Int) (p t : ByteArray) : (parseO k p t).1.1.length ≤ 16 := by
  unfold parseO
  split
  · simp
  · split <;> exact parseP_len p
theorem allTxt_rows (l : List ByteArray) : AllTxt (rowsT l) := by
  intro e he
  simp only [rowsT, List.mem_map] at he
  obtain ⟨s, _, rfl⟩ := he
  exact ⟨s, rfl⟩
/-- What branch.Do tells where nothing is written: an error, the reply. -/
def doAsk (es : List (List AV)) (ro : Bool) (ok : Int) (op ot : ByteArray) (oa on : Int) : Int × (List (List AV) × (List (List AV) × List AV)) :=
  if (parseO ok op ot).2 ≠ 0 then ((parseO ok op ot).2, [], [], zInfo)
  else if asksK ok = true then (if (askR es (rowsT (parseO ok op ot).1.1) ok oa on).1 ≠ 0 then ((askR es (rowsT (parseO ok op ot).1.1) ok oa on).1, [], [], zInfo) else (0, (askR es (rowsT (parseO ok op ot).1.1) ok oa on).2))
  else (10, [], [], zInfo)
def repA (r : List (List AV) × (List (List AV) × List AV)) : AV := rA r.1 r.2.1 (nI r.2.2 0) (nI r.2.2 1) (nI r.2.2 2) (nI r.2.2 3) (nI r.2.2 4)
def CDoA : List AV → Prop
  | [.agg [.int .i64 _, .int .i64 _, .int .i64 _, .sl 8 false es], .bool ro, .agg [.int .i64 ok, .str op, .str ot, .int .i64 _, .int .i64 _, .int .i64 _, .sl 1 false _]] =>
    (IsNodes es ∧ TgtOK es) ∧ (op.size ≤ 1000000000 ∧ ot.size ≤ 1000000000) ∧ (ro = true ∨ asksK ok = true)
  | _ => False
def gDoA : List AV → AV
  | [.agg [a, b, c, .sl _ _ es], .bool ro, .agg [.int _ ok, .str op, .str ot, _, .int _ oa, .int _ on, _]] => .tup [.agg [a, b, c, .sl 8 false es], repA (doAsk es ro ok op ot oa on).2, .int .i64 (doAsk es ro ok op ot oa on).1]
  | _ => .junk
theorem fn17a : SpecSound Tryz.prog 17 (.fn CDoA gDoA) := dat_soundC te_ok GE17_sound mixed isFun_17 (by
  rintro xs Φ ⟨hC, h⟩
  unfold CDoA at hC
  split at hC
  · rename_i a b c es ro ok op ot om oa on od
    obtain ⟨⟨hn, ht⟩, hsz, hro⟩ := hC
    have h' : Φ (.tup [dA a b c es, repA (doAsk es ro ok op ot oa on).2, .int .i64 (doAsk es ro ok op ot oa on).1]) .none := h
    refine Eq.mpr (v17 ..) ?_
    unfold doAsk at h'
    have hok : asksK ok = true → AskOK es (rowsT (parseO ok op ot).1.1) ok := fun ha => ⟨hn, ht, allTxt_rows _, by rw [rowsT_len]; have := parseO_len ok op ot; omega, ha⟩
    generalize (parseO ok op ot).2 = P at *
    generalize askR es (rowsT (parseO ok op ot).1.1) ok oa on = A at *
    have bad : ∀ {X Y Z : Prop}, P = 0 → (P == 0) = false → X := fun hp hf => absurd hp (ne_of_beq_false hf)
    have tail : P = 0 → asksK ok = true → ifB (A.1 != 0) (Φ (.tup [dA a b c es, rA [] [] 0 0 0 0 0, .int .i64 A.1]) .none) (Φ (.tup [dA a b c es, repA A.2, .int .i64 0]) .none) := fun hp ha => by
      rw [if_neg (fun hh => hh hp), if_pos ha] at h'
      refine ifB_both (fun c1 => ?_) (fun c1 => ?_)
      · rw [if_pos (ne_of_bne c1)] at h'; exact h'
      · rw [if_neg (fun hh => hh (eq_of_nbne c1))] at h'; exact h'
    have E : ∀ {X Y : Prop}, P = 0 → X → ifB (P == 0) X Y := fun hp hx => by subst hp; exact hx
    have N : P ≠ 0 → ∀ {X Y Z : Prop}, (Φ (.tup [dA a b c es, rA [] [] 0 0 0 0 0, .int .i64 P]) .none → Y) → ifB (P == 0) X (ifB (P != 0) Y Z) := fun hp X Y Z hy => by
      rw [beq_false_of_ne hp, show (P != 0) = true from bne_iff_ne.2 hp]
      rw [if_pos hp] at h'
      exact hy h'
    refine ⟨hsz, ifB_both (fun c1 => ?_) (fun c1 => ?_)⟩
    · have hp := eq_of_beq c1
      refine ifB_both (fun c2 => ⟨trivial, ifB_both (fun c3 => ?_) (fun c3 => ?_)⟩) (fun c2 => ?_)
      · rw [if_neg (fun hh => hh hp), if_neg (by simpa using c3)] at h'; exact h'
      · have ha : asksK ok = true := by simpa using c3
        exact E hp ⟨⟨⟨rfl, rfl, rfl, rfl⟩, hok ha⟩, tail hp ha⟩
      · have ha : asksK ok = true := hro.resolve_left (by rw [c2]; decide)
        exact E hp ⟨⟨⟨rfl, rfl, rfl, rfl⟩, hok ha⟩, tail hp ha⟩
    · exact N (ne_of_beq_false c1) id
  · cases hC)
end Go.Proofs.YtdojencjbmahpaaGreatDoor
end
/-
  'veneerlaw8.BranchRo': its contract: for every operation it is true.
-/
section
namespace Go.Proofs.YtdojencjbmahpaaGreatDoor
open Go.Rf
set_option maxRecDepth 100000
set_option linter.unusedVariables false
set_option linter.unusedSimpArgs false
/-- The root of a new disk. -/
def rootR : List (List AV) := [[.int .i64 1, .int .i64 2, .int .i64 493, .int .i64 1, .int .i64 0, .sl 2 false [], .str ⟨#[]⟩, .sl 2 false []]]
def CNew : List AV → Prop
  | [.int .i64 _, .int .i64 _] => True
  | _ => False
def gNew : List AV → AV
  | [.int _ b, .int _ n] => .agg [.int .i64 b, .int .i64 n, .int .i64 2, .sl 8 false rootR]
  | _ => .junk
theorem isFun_21 : IsFun Tryz.prog 21 Tryz.f21 := ⟨Tryz.func21, by kernel_rfl, by kernel_rfl⟩
theorem v21 (b n : Int) (Φ : AV → Ent → Prop) : wFunC te nGE' Tryz.f21 [(.int .i64 b), (.int .i64 n)] [] (datFin Φ) = (Φ (dA b n 2 ([[(.int .i64 1), (.int .i64 2), (.int .i64 493), (.int .i64 1), (.int .i64 0), (.sl 2 false ([] : List (List AV))), (.str ⟨#[]⟩), (.sl 2 false ([] : List (List AV)))]])) .none) := by kernel_rfl
theorem fn21 : SpecSound Tryz.prog 21 (.fn CNew gNew) := dat_soundC te_ok nGE'_sound mixed isFun_21 (by
  rintro xs Φ ⟨hC, h⟩
  unfold CNew at hC
  split at hC
  · rw [v21]; exact h
  · cases hC)
/-- The disk of the law: a directory, a file. -/
def roOps : List (List AV) := [[.int .i64 2, .str ⟨#[47, 100]⟩, .str ⟨#[]⟩, .int .i64 0, .int .i64 0, .int .i64 0, .sl 1 false []], [.int .i64 1, .str ⟨#[47, 102]⟩, .str ⟨#[]⟩, .int .i64 0, .int .i64 0, .int .i64 0, .sl 1 false []]]
def roR : List (List AV) := [[.int .i64 1, .int .i64 2, .int .i64 493, .int .i64 1, .int .i64 0, .sl 2 false [], .str ⟨#[]⟩, .sl 2 false [[.str ⟨#[100]⟩, .int .i64 2], [.str ⟨#[102]⟩, .int .i64 3]]],
  [.int .i64 2, .int .i64 2, .int .i64 0, .int .i64 1, .int .i64 0, .sl 2 false [], .str ⟨#[]⟩, .sl 2 false []],
  [.int .i64 3, .int .i64 1, .int .i64 0, .int .i64 1, .int .i64 0, .sl 2 false [], .str ⟨#[]⟩, .sl 2 false []]]
theorem ro_run : fDat te (X 30) 400 Tryz.f26 [dA 9 9 2 rootR, .sl 7 false roOps] = some (dA 9 9 4 roR, .none) := by kernel_rfl
theorem ro_same : fDat te (X 30) 400 Tryz.f18 [dA 9 9 4 roR, dA 9 9 4 roR] = some (.bool true, .none) := by kernel_rfl
theorem memo_fn {P : Program} {f : FuncId} {g : List AV → Option (AV × Ent)} (hg : SpecSound P f (XS.spec (.dat g))) {ys : List AV} {r : AV} (hx : g ys = some (r, .none)) : SpecSound P f (.fn (fun xs => xs = ys) (fun _ => r)) :=
  fn_of_dat hg (fun xs h => by subst h; exact hx)
theorem fn26r : SpecSound Tryz.prog 26 (.fn (fun xs => xs = [dA 9 9 2 rootR, .sl 7 false roOps]) (fun _ => .agg [.int .i64 9, .int .i64 9, .int .i64 4, .sl 8 false roR])) :=
  memo_fn (fDat_sound te_ok (X_sound 30) mixed rnFun_26 stat_26 400) ro_run
theorem fn18r : SpecSound Tryz.prog 18 (.fn (fun xs => xs = [dA 9 9 4 roR, dA 9 9 4 roR]) (fun _ => .bool true)) :=
  memo_fn (fDat_sound te_ok (X_sound 30) mixed rnFun_18 stat_18 400) ro_same
theorem fn20 : SpecSound Tryz.prog 20 (.fn (fun xs => xs = []) (fun _ => .bool true)) := fn_of_dat known_sound (fun xs h => by subst h; rfl)
theorem isFun_8 : IsFun Tryz.prog 8 Tryz.f8 := ⟨Tryz.func8, by kernel_rfl, by kernel_rfl⟩
def GE8 : GE := fun f => match f with
  | 17 => some (.fn CDoA gDoA)
  | 18 => some (.fn (fun xs => xs = [dA 9 9 4 roR, dA 9 9 4 roR]) (fun _ => .bool true))
  | 20 => some (.fn (fun xs => xs = []) (fun _ => .bool true))
  | 21 => some (.fn CNew gNew)
  | 24 => some (.fn COp gAsks)
  | 26 => some (.fn (fun xs => xs = [dA 9 9 2 rootR, .sl 7 false roOps]) (fun _ => .agg [.int .i64 9, .int .i64 9, .int .i64 4, .sl 8 false roR]))
  | 27 => some (.fn CParse gParse)
  | 31 => some (.fn C2S g2S)
  | _ => none
theorem GE8_sound : Sound Tryz.prog GE8 := by
  intro f sp h
  unfold GE8 at h
  split at h
  · cases h; exact fn17a
  · cases h; exact fn18r
  · cases h; exact fn20
  · cases h; exact fn21
  · cases h; exact fn24
  · cases h; exact fn26r
  · cases h; exact fn27
  · cases h; exact fn31
  · cases h
theorem v8 (ok : Int) (op ot : ByteArray) (om oa on : Int) (od : List (List AV)) (Φ : AV → Ent → Prop) : wFunC te GE8 Tryz.f8 [(oA ok op ot om oa on od)] [] (datFin Φ) = (ifB (!leI (od.length : Int) 100) (Φ (.bool true) .none) (ifB (!leI (op.size : Int) 200) (Φ (.bool true) .none) (ifB (!leI (ot.size : Int) 200) (Φ (.bool true) .none) (CNew [(.int .i64 9), (.int .i64 9)] ∧ ([(dA 9 9 2 rootR), (.sl 7 false [[(.int .i64 2), (.str ⟨#[47, 100]⟩), (.str ⟨#[]⟩), (.int .i64 0), (.int .i64 0), (.int .i64 0), (.sl 1 false ([] : List (List AV)))], [(.int .i64 1), (.str ⟨#[47, 102]⟩), (.str ⟨#[]⟩), (.int .i64 0), (.int .i64 0), (.int .i64 0), (.sl 1 false ([] : List (List AV)))]])] = [dA 9 9 2 rootR, .sl 7 false roOps] ∧ (CDoA [(dA 9 9 4 roR), (.bool true), (oA ok op ot om oa on od)] ∧ (COp [(oA ok op ot om oa on od)] ∧ (ifB (asksK ok) (CDoA [(dA 9 9 4 roR), (.bool false), (oA ok op ot om oa on od)] ∧ (ifB ((doAsk roR true ok op ot oa on).1 == (doAsk roR false ok op ot oa on).1) (ifB (((nI (doAsk roR true ok op ot oa on).2.2.2 0) == (nI (doAsk roR false ok op ot oa on).2.2.2 0)) && (((nI (doAsk roR true ok op ot oa on).2.2.2 1) == (nI (doAsk roR false ok op ot oa on).2.2.2 1)) && (((nI (doAsk roR true ok op ot oa on).2.2.2 2) == (nI (doAsk roR false ok op ot oa on).2.2.2 2)) && (((nI (doAsk roR true ok op ot oa on).2.2.2 3) == (nI (doAsk roR false ok op ot oa on).2.2.2 3)) && (((nI (doAsk roR true ok op ot oa on).2.2.2 4) == (nI (doAsk roR false ok op ot oa on).2.2.2 4)) && true))))) (C2S [(.sl 1 false (doAsk roR true ok op ot oa on).2.2.1), (.sl 1 false (doAsk roR false ok op ot oa on).2.2.1)] ∧ (ifB (eqS (doAsk roR true ok op ot oa on).2.2.1 (doAsk roR false ok op ot oa on).2.2.1) ([(dA 9 9 4 roR), (dA 9 9 4 roR)] = [dA 9 9 4 roR, dA 9 9 4 roR] ∧ (([] : List AV) = [] ∧ (Φ (.bool true) .none))) (Φ (.bool false) .none))) (Φ (.bool false) .none)) (Φ (.bool false) .none))) (CParse [(.str op)] ∧ (ifB (!leI 1 ok) ([(dA 9 9 4 roR), (dA 9 9 4 roR)] = [dA 9 9 4 roR, dA 9 9 4 roR] ∧ (ifB ((doAsk roR true ok op ot oa on).1 != 0) (ifB ((doAsk roR true ok op ot oa on).1 == 1) (([] : List AV) = [] ∧ (Φ (.bool true) .none)) (Φ (.bool false) .none)) (Φ (.bool false) .none))) (ifB (!leI ok 14) ([(dA 9 9 4 roR), (dA 9 9 4 roR)] = [dA 9 9 4 roR, dA 9 9 4 roR] ∧ (ifB ((doAsk roR true ok op ot oa on).1 != 0) (ifB ((doAsk roR true ok op ot oa on).1 == 1) (([] : List AV) = [] ∧ (Φ (.bool true) .none)) (Φ (.bool false) .none)) (Φ (.bool false) .none))) ([(dA 9 9 4 roR), (dA 9 9 4 roR)] = [dA 9 9 4 roR, dA 9 9 4 roR] ∧ (ifB ((doAsk roR true ok op ot oa on).1 != 0) (ifB ((parseP op).2 == 0) (([] : List AV) = [] ∧ (Φ (.bool true) .none)) (ifB ((doAsk roR true ok op ot oa on).1 == (parseP op).2) (([] : List AV) = [] ∧ (Φ (.bool true) .none)) (Φ (.bool false) .none))) (Φ (.bool false) .none)))))))))))))) := by kernel_rfl
theorem isBlocks_nil : IsBlocks [] := ⟨by simp, by simp, by simp⟩
theorem isNames_nil : IsNames [] := ⟨by simp, by simp, by simp⟩
theorem roR_ok : IsNodes roR ∧ TgtOK roR := by
  have hr : IsNames [[.str ⟨#[100]⟩, .int .i64 2], [.str ⟨#[102]⟩, .int .i64 3]] := by
    refine ⟨?_, ?_, by decide⟩
    · intro e he
      simp only [List.mem_cons, List.mem_nil_iff, or_false] at he
      rcases he with rfl | rfl
      · exact ⟨_, _, rfl⟩
      · exact ⟨_, _, rfl⟩
    · rw [List.pairwise_cons]
      refine ⟨?_, List.pairwise_singleton _ _⟩
      intro e he
      simp only [List.mem_cons, List.mem_nil_iff, or_false] at he
      subst he
      kernel_rfl
  refine ⟨⟨?_, ?_, by decide⟩, ?_⟩
  · intro e he
    simp only [roR, List.mem_cons, List.mem_nil_iff, or_false] at he
    rcases he with rfl | rfl | rfl
    · exact ⟨_, _, _, _, _, _, _, _, rfl, isBlocks_nil, hr⟩
    · exact ⟨_, _, _, _, _, _, _, _, rfl, isBlocks_nil, isNames_nil⟩
    · exact ⟨_, _, _, _, _, _, _, _, rfl, isBlocks_nil, isNames_nil⟩
  · simp only [roR, List.pairwise_cons, List.mem_cons, List.mem_nil_iff, or_false]
    refine ⟨?_, ?_, ?_, List.Pairwise.nil⟩
    · rintro e (rfl | rfl) <;> decide
    · rintro e rfl; decide
    · rintro e he; cases he
  · intro e he
    simp only [roR, List.mem_cons, List.mem_nil_iff, or_false] at he
    rcases he with rfl | rfl | rfl <;> decide
theorem ask_names {es : List (List AV)} (h : IsNodes es) (ls : List (List AV)) (ok oa on : Int) : AllStr (askR es ls ok oa on).2.2.1 ∧ (askR es ls ok oa on).2.2.1.length ≤ 1000000000 := by
  have z : AllStr [] ∧ ([] : List (List AV)).length ≤ 1000000000 := ⟨(by intro e he; cases he), by simp⟩
  unfold askR
  split
  · exact z
  · split
    · exact z
    · split
      · exact z
      · split
        · split
          · exact z
          · have hnm : IsNames (sI (nodeN es ls).1 7) := node_names (isNode_node h ls)
            refine ⟨?_, by rw [nms_len]; exact hnm.2.2⟩
            intro e he
            simp only [nmsR, List.mem_map] at he
            obtain ⟨x, _, rfl⟩ := he
            exact ⟨_, rfl⟩
        · split
          · exact z
          · exact z
theorem doAsk_names {es : List (List AV)} (h : IsNodes es) (ro : Bool) (ok : Int) (op ot : ByteArray) (oa on : Int) : AllStr (doAsk es ro ok op ot oa on).2.2.1 ∧ (doAsk es ro ok op ot oa on).2.2.1.length ≤ 1000000000 := by
  have z : AllStr [] ∧ ([] : List (List AV)).length ≤ 1000000000 := ⟨(by intro e he; cases he), by simp⟩
  unfold doAsk
  split
  · exact z
  · split
    · split
      · exact z
      · exact ask_names h _ _ _ _
    · exact z
theorem eqS_refl : ∀ (es : List (List AV)), eqS es es = true
  | [] => rfl
  | e :: es => by simp only [eqS]; rw [eqS_refl es, Bool.and_true]; exact beq_self_eq_true _
theorem ifB_beq {α : Type} [BEq α] [ReflBEq α] {a : α} {A B : Prop} (h : A) : ifB (a == a) A B := by rw [beq_self_eq_true]; exact h
/-- What the law is asked: any operation. -/
def CLawO : List AV → Prop
  | [.agg [.int .i64 _, .str _, .str _, .int .i64 _, .int .i64 _, .int .i64 _, .sl 1 false _]] => True
  | _ => False
theorem fn8 : SpecSound Tryz.prog 8 (.fn CLawO (fun _ => .bool true)) := dat_soundC te_ok GE8_sound mixed isFun_8 (by
  rintro xs Φ ⟨hC, h⟩
  unfold CLawO at hC
  split at hC
  · rename_i ok op ot om oa on od
    have h' : Φ (.bool true) .none := h
    refine Eq.mpr (v8 ..) ?_
    refine ifB_both (fun _ => h') (fun _ => ifB_both (fun _ => h') (fun c1 => ifB_both (fun _ => h') (fun c2 => ?_)))
    have s1 := le_of_nleI c1
    have s2 := le_of_nleI c2
    have hsz : op.size ≤ 1000000000 ∧ ot.size ≤ 1000000000 := by omega
    refine ⟨trivial, rfl, ⟨roR_ok, hsz, .inl rfl⟩, trivial, ifB_both (fun c3 => ⟨⟨roR_ok, hsz, .inr c3⟩, ?_⟩) (fun c3 => ⟨hsz.1, ?_⟩)⟩
    · obtain ⟨n1, n2⟩ := doAsk_names roR_ok.1 true ok op ot oa on
      refine ifB_beq ?_
      refine ifB_both (fun _ => ⟨⟨n1, n1, Nat.le_trans n2 (by omega)⟩, ifB_both (fun _ => ⟨rfl, rfl, h'⟩) (fun c4 => ?_)⟩) (fun c4 => ?_)
      · exact absurd (show eqS (doAsk roR true ok op ot oa on).2.2.1 (doAsk roR true ok op ot oa on).2.2.1 = false from c4) (by rw [eqS_refl]; decide)
      · simp [show (doAsk roR false ok op ot oa on) = doAsk roR true ok op ot oa on from rfl] at c4
    · have hE : (doAsk roR true ok op ot oa on).1 = if (parseO ok op ot).2 ≠ 0 then (parseO ok op ot).2 else 10 := by
        unfold doAsk
        split
        · rfl
        · rw [if_neg (by rw [c3]; decide)]
      rw [hE]
      have one : (parseO ok op ot).2 = 1 → ∀ {X : Prop}, X → ifB ((if (parseO ok op ot).2 ≠ 0 then (parseO ok op ot).2 else 10) != 0) (ifB ((if (parseO ok op ot).2 ≠ 0 then (parseO ok op ot).2 else 10) == 1) X (Φ (.bool false) .none)) (Φ (.bool false) .none) := by
        intro h1 X hx
        rw [h1]
        exact hx
      refine ifB_both (fun c4 => ⟨rfl, one (by unfold parseO; rw [if_pos (.inl (lt_of_nleI c4))]) ⟨rfl, h'⟩⟩) (fun c4 => ifB_both (fun c5 => ⟨rfl, one (by unfold parseO; rw [if_pos (.inr (lt_of_nleI c5))]) ⟨rfl, h'⟩⟩) (fun c5 => ⟨rfl, ?_⟩))
      refine ifB_both (fun _ => ifB_both (fun _ => ⟨rfl, h'⟩) (fun c6 => ?_)) (fun c6 => ?_)
      · have hne := ne_of_beq_false c6
        have : (parseO ok op ot).2 = (parseP op).2 := by
          unfold parseO
          rw [if_neg (by have := le_of_nleI c4; have := le_of_nleI c5; omega), if_neg (fun hh => hne hh.1)]
        rw [this, if_pos hne]
        exact ifB_beq ⟨rfl, h'⟩
      · exfalso
        have := eq_of_nbne c6
        split at this
        · rename_i hh; exact hh this
        · cases this
  · cases hC)
end Go.Proofs.YtdojencjbmahpaaGreatDoor
end
