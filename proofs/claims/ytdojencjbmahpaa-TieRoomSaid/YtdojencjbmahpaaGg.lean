/-
  Texts of the proof, put together: Xa, Xb, Ya.
-/
import Derived.Test.YtdojencjbmahpaaGf
import Derived.Test.YtdojencjbmahpaaGd
/-
  The reference's disks: which may be. The contracts of Copy, Get, has, named, Named, Is of files and of disks, for whatever is of the shape.
-/
section
namespace Go.Proofs.Ytdojencjbmahpaa
open Go.Rf
set_option maxRecDepth 100000
set_option linter.unusedVariables false
set_option linter.unusedSimpArgs false
/-! What is of the shape of blocks, names, nodes -/
def ShBlock (e : List AV) : Prop := ∃ (a : Int) (d : List (List AV)), e = [.int .i64 a, .sl 1 false d] ∧ (∀ x ∈ d, isByte x) ∧ d.length ≤ 1000000000
def ShBlocks (es : List (List AV)) : Prop := (∀ e ∈ es, ShBlock e) ∧ es.length ≤ 1000000000
def ShName (e : List AV) : Prop := ∃ (s : ByteArray) (n : Int), e = [.str s, .int .i64 n] ∧ s.size ≤ 1000000000
def ShNames (es : List (List AV)) : Prop := (∀ e ∈ es, ShName e) ∧ es.length ≤ 1000000000
def ShNode (e : List AV) : Prop := ∃ (a b c d s : Int) (bl : List (List AV)) (t : ByteArray) (nm : List (List AV)), e = [.int .i64 a, .int .i64 b, .int .i64 c, .int .i64 d, .int .i64 s, .sl 2 false bl, .str t, .sl 2 false nm] ∧ ShBlocks bl ∧ ShNames nm ∧ t.size ≤ 1000000000
def ShNodes (es : List (List AV)) : Prop := (∀ e ∈ es, ShNode e) ∧ es.length ≤ 1000000000
theorem shBlock_at {es : List (List AV)} (h : ShBlocks es) {i : Nat} (hi : i < es.length) : ∃ (a : Int) (d : List (List AV)), es[i] = [.int .i64 a, .sl 1 false d] ∧ cellAt es i 0 = .int .i64 a ∧ cellAt es i 1 = .sl 1 false d ∧ (∀ x ∈ d, isByte x) ∧ d.length ≤ 1000000000 := by
  obtain ⟨a, d, he, h1, h2⟩ := h.1 es[i] (List.getElem_mem hi)
  have hc : ∀ k, cellAt es i k = es[i].getD k .junk := fun k => by simp [cellAt, List.getD_eq_getElem?_getD, List.getElem?_eq_getElem hi]
  exact ⟨a, d, he, by rw [hc, he]; rfl, by rw [hc, he]; rfl, h1, h2⟩
theorem shName_at {es : List (List AV)} (h : ShNames es) {i : Nat} (hi : i < es.length) : ∃ (s : ByteArray) (n : Int), es[i] = [.str s, .int .i64 n] ∧ cellAt es i 0 = .str s ∧ cellAt es i 1 = .int .i64 n ∧ s.size ≤ 1000000000 := by
  obtain ⟨a, d, he, h1⟩ := h.1 es[i] (List.getElem_mem hi)
  have hc : ∀ k, cellAt es i k = es[i].getD k .junk := fun k => by simp [cellAt, List.getD_eq_getElem?_getD, List.getElem?_eq_getElem hi]
  exact ⟨a, d, he, by rw [hc, he]; rfl, by rw [hc, he]; rfl, h1⟩
theorem shNode_cells {e : List AV} (h : ShNode e) : cells e = e := by
  obtain ⟨a, b, c, d, s, bl, t, nm, rfl, _⟩ := h
  rfl
/-! ref2.Copy -/
theorem isFun_72 : IsFun Try.prog 72 Try.f72 := ⟨Try.func72, by kernel_rfl, by kernel_rfl⟩
theorem v72 (z : Int) (bl : List (List AV)) (Φ : AV → Ent → Prop) : wFunC te nGE' Try.f72 [(fA z bl)] [] (datFin Φ) = (wLoopC 0 (wCodeC te nGE' 0 (bodyAt Try.f72 [false, false, true, false, true, true])) ⟨((fA z bl) :: ((.ptr 0 0) :: ((.ptr 1 0) :: ((.ptr 2 0) :: ((.int .i64 0) :: ((.ptr 0 0) :: ((.int .i64 z) :: ((.agg [(.int .i64 z), (.sl 2 true ([] : List (List AV)))]) :: (jk 28 []))))))))), [(.var [(.int .i64 z), (.sl 2 false bl)]), (.var [(.int .i64 0), (.sl 2 true ([] : List (List AV)))]), (.var [(.int .i64 z), (.sl 2 true ([] : List (List AV)))])]⟩ (blkQ 0 (seqQ (wCodeC te nGE' 0 (bodyAt Try.f72 [false, false, false])) (endQ te Try.f72 (datFin Φ))))) := by kernel_rfl
def t72 (z : Int) (bl : List (List AV)) (i : Int) (v m : Nat) (es : List (List AV)) : St := ⟨(jk 1 ((.ptr 0 0) :: ((.ptr 1 0) :: ((.ptr 2 0) :: ((.int .i64 i) :: (jk 31 [])))))), [(.var [(.int .i64 z), (.sl 2 false bl)]), (.var [(.int .i64 0), (.sl 2 true ([] : List (List AV)))]), (.var [(.int .i64 z), (.own 3 v m)]), (.arr true v 2 none es)]⟩
def k72 : List Bool := [false, true, true, true, true, false, false, false, false, false, false, false, false, false, false, false, false, false, false, false, false, false, false, false, false, false, false, false, false, false, false, false, false, false, false, false]
theorem b72 (z : Int) (bl : List (List AV)) (i : Int) (v m : Nat) (es : List (List AV)) (K : KontX) (Φ : AV → Ent → Prop) : wCodeC te nGE' 0 (bodyAt Try.f72 [false, false, true, false, true, true]) (t72 z bl i v m es) (maskK ((endQ te Try.f72 (datFin Φ)) .ret) k72 K) = (ifB (!leI (bl.length : Int) i) ((0 ≤ i ∧ i < (bl.length : Int)) ∧ (∃ n41, cellAt bl i.toNat 0 = (.int .i64 n41) ∧ ((0 ≤ i ∧ i < (bl.length : Int)) ∧ (∃ r42, cellAt bl i.toNat 1 = (.sl 1 false r42) ∧ (((fits 1 1 r42 = true ∧ fits 1 1 ([] : List (List AV)) = true) ∧ (([] : List (List AV)) = [] ∨ r42 ≠ []) ∧ room (0 + r42.length) 1) ∧ (((1 = 1 ∧ 1 = 1) ∧ (fits 2 2 [[(.int .i64 n41), (.own 19 1 (0 + r42.length))]] = true ∧ v = v ∧ m = es.length ∧ room (es.length + 1) 32)) ∧ (K .normal ⟨(jk 1 ((.ptr 0 0) :: ((.ptr 1 0) :: ((.ptr 2 0) :: ((.int .i64 (IntKind.i64.wrap (i + 1))) :: (jk 31 [])))))), [(.var [(.int .i64 z), (.sl 2 false bl)]), (.var [(.int .i64 0), (.sl 2 true ([] : List (List AV)))]), (.var [(.int .i64 z), (.own 3 (v + 1) (es.length + 1))]), (.arr false (v + 1) 2 none (es ++ [[(.int .i64 n41), (.own 19 1 (0 + r42.length))]])), .none, .none, .none, .none, .none, .none, .none, .none, .none, .none, .none, .none, .none, .none, .none, (.arr true 1 1 none (([] : List (List AV)) ++ r42)), .none, (.arr false 1 2 none [[(.int .i64 n41), (.own 19 1 (0 + r42.length))]])]⟩))))))) (K (.exit 0) (t72 z bl i v m es))) := by kernel_rfl
theorem e72 (z : Int) (bl : List (List AV)) (i : Int) (v m : Nat) (es : List (List AV)) (Φ : AV → Ent → Prop) : wCodeC te nGE' 0 (bodyAt Try.f72 [false, false, false]) (t72 z bl i v m es) (endQ te Try.f72 (datFin Φ)) = ((v = v ∧ m = es.length) ∧ (Φ (fA z es) .none)) := by kernel_rfl
def CCp : List AV → Prop
  | [.agg [.int .i64 _, .sl 2 false bl]] => ShBlocks bl
  | _ => False
def gId1 : List AV → AV
  | [a] => a
  | _ => .junk
theorem fits1 {sz : Nat} (es : List (List AV)) (h : 0 < sz) : fits sz sz es = true := by
  cases es with
  | nil => rfl
  | cons => exact eqb_self sz
theorem s72 {z : Int} {bl : List (List AV)} (hb : ShBlocks bl) (Φ : AV → Ent → Prop) (h : Φ (fA z bl) .none) : wFunC te nGE' Try.f72 [fA z bl] [] (datFin Φ) := by
  have hl := hb.2
  rw [v72]
  refine loopM _ rfl k72 (fun n st => ∃ (i v : Nat), i + n = bl.length ∧ st = t72 z bl i v i (bl.take i)) ⟨bl.length, _, ⟨0, 1, by omega, rfl⟩, ?_⟩ ?_
  · refine ReT.trans (reT_adoptV (T := _) (H := _) 2 1 2 2 rfl rfl (by omega)) ?_
    exact reT_to k72 4 rfl (by omega) rfl
  rintro n st ⟨i, v, hi, rfl⟩
  refine Eq.mpr (b72 ..) ?_
  refine ifB_both (fun c1 => ?_) (fun c1 => ?_)
  · have c1' := lt_of_nleI c1
    have hlt : i < bl.length := by omega
    obtain ⟨a, d, he, q0, q1, hy, hdl⟩ := shBlock_at hb hlt
    have hw : IntKind.i64.wrap ((i : Int) + 1) = ((i + 1 : Nat) : Int) := by rw [IntWalk.i64_in _ (by omega)]; omega
    have hi' : (0 : Int) ≤ i ∧ (i : Int) < (bl.length : Int) := by omega
    have hlen : (bl.take i).length = i := by simp; omega
    refine ⟨hi', a, by rw [Int.toNat_natCast]; exact q0, hi', d, by rw [Int.toNat_natCast]; exact q1, ⟨⟨fits1 d (by omega), rfl⟩, .inl rfl, by unfold room; omega⟩, ⟨⟨rfl, rfl⟩, rfl, rfl, hlen.symm, by unfold room; omega⟩, ?_⟩
    rw [hw, hlen, Nat.zero_add]
    refine rc_to (n - 1) (by omega) ⟨i + 1, v + 1, by omega, rfl⟩ ?_
    refine ReT.trans (reT_freezeLast (es := bl.take i) (row := [.int .i64 a, .own 19 1 d.length]) (ds := d) 3 19 [.int .i64 a, .sl 1 false d] (by omega) rfl rfl ?_ rfl ?_) ?_
    · intro e he'
      obtain ⟨a', d', rfl, _, _⟩ := hb.1 e (List.mem_of_mem_take he')
      exact ⟨rfl, by simp [closed1]⟩
    · intro k x x' hx hx'
      match k with
      | 0 => simp at hx hx'; subst hx; subst hx'; exact .inl ⟨rfl, rfl⟩
      | 1 => simp at hx hx'; subst hx; subst hx'; exact .inr ⟨rfl, rfl⟩
      | k + 2 => simp at hx
    · have : bl.take (i + 1) = bl.take i ++ [[.int .i64 a, .sl 1 false d]] := by
        rw [List.take_add_one, List.getElem?_eq_getElem hlt, he]; rfl
      rw [this]
      exact reT_to k72 4 rfl (by omega) rfl
  · have c1' := le_of_nleI c1
    refine rc_exit ?_
    rw [e72]
    rw [List.take_of_length_le (by omega)]
    exact ⟨⟨rfl, by omega⟩, h⟩
theorem fn72 : SpecSound Try.prog 72 (.fn CCp gId1) := dat_soundC te_ok nGE'_sound mixed isFun_72 (by
  rintro xs Φ ⟨hC, h⟩
  unfold CCp at hC
  split at hC
  · exact s72 hC Φ h
  · cases hC)
/-! ref3.node, ref3.Get -/
theorem isFun_44 : IsFun Try.prog 44 Try.f44 := ⟨Try.func44, by kernel_rfl, by kernel_rfl⟩
def GE44 : GE := fun f => match f with
  | 72 => some (.fn CCp gId1)
  | _ => none
theorem GE44_sound : Sound Try.prog GE44 := by
  intro f sp h
  unfold GE44 at h
  split at h
  · cases h; exact fn72
  · cases h
theorem v44 (d0 d1 d2 d3 d4 : Int) (bl nm : List (List AV)) (t : ByteArray) (Φ : AV → Ent → Prop) : wFunC te GE44 Try.f44 [(.agg [(.int .i64 d0), (.int .i64 d1), (.int .i64 d2), (.int .i64 d3), (.int .i64 d4), (.sl 2 false bl), (.str t), (.sl 2 false nm)])] [] (datFin Φ) = (CCp [(fA d4 bl)] ∧ (((fits 2 2 nm = true ∧ fits 2 2 ([] : List (List AV)) = true) ∧ (([] : List (List AV)) = [] ∨ nm ≠ []) ∧ room (0 + nm.length) 24) ∧ ((1 = 1 ∧ (0 + nm.length) = (([] : List (List AV)) ++ nm).length) ∧ (Φ (.agg [(.int .i64 d0), (.int .i64 d1), (.int .i64 d2), (.int .i64 d3), (.int .i64 d4), (.sl 2 false bl), (.str t), (.sl 2 false (([] : List (List AV)) ++ nm))]) .none)))) := by kernel_rfl
def CNo3 : List AV → Prop
  | [.agg r] => ShNode r
  | _ => False
theorem fn44 : SpecSound Try.prog 44 (.fn CNo3 gId1) := dat_soundC te_ok GE44_sound mixed isFun_44 (by
  rintro xs Φ ⟨hC, h⟩
  unfold CNo3 at hC
  split at hC
  · obtain ⟨d0, d1, d2, d3, d4, bl, t, nm, rfl, hbl, hnm, _⟩ := hC
    have hl := hnm.2
    refine Eq.mpr (v44 ..) ?_
    rw [Nat.zero_add, List.nil_append]
    exact ⟨hbl, ⟨⟨fits1 nm (by omega), rfl⟩, .inl rfl, by unfold room; omega⟩, ⟨rfl, rfl⟩, h⟩
  · cases hC)
theorem exSh {es : List (List AV)} (h : ShNodes es) {i : Nat} (hi : i < es.length) {G : Int → Int → Int → Int → Int → List (List AV) → ByteArray → List (List AV) → Prop}
    (hg : G (nI es[i] 0) (nI es[i] 1) (nI es[i] 2) (nI es[i] 3) (nI es[i] 4) (sI es[i] 5) (bI es[i]) (sI es[i] 7)) :
    ∃ n0, cellAt es i 0 = .int .i64 n0 ∧ ∃ n1, cellAt es i 1 = .int .i64 n1 ∧ ∃ n2, cellAt es i 2 = .int .i64 n2 ∧ ∃ n3, cellAt es i 3 = .int .i64 n3 ∧ ∃ n4, cellAt es i 4 = .int .i64 n4 ∧
      ∃ r5, cellAt es i 5 = .sl 2 false r5 ∧ ∃ s6, cellAt es i 6 = .str s6 ∧ ∃ r7, cellAt es i 7 = .sl 2 false r7 ∧ G n0 n1 n2 n3 n4 r5 s6 r7 := by
  obtain ⟨a, b, c, d, s, bl, t, nm, hrow, _⟩ := h.1 _ (List.getElem_mem hi)
  have hc : ∀ k, cellAt es i k = es[i].getD k .junk := fun k => by simp [cellAt, List.getD_eq_getElem?_getD, List.getElem?_eq_getElem hi]
  rw [hrow] at hg hc
  exact ⟨_, by rw [hc]; rfl, _, by rw [hc]; rfl, _, by rw [hc]; rfl, _, by rw [hc]; rfl, _, by rw [hc]; rfl, _, by rw [hc]; rfl, _, by rw [hc]; rfl, _, by rw [hc]; rfl, hg⟩
theorem ino_cell {es : List (List AV)} (h : ShNodes es) {i : Nat} (hi : i < es.length) : cellAt es i 0 = .int .i64 (inI es[i]) := by
  obtain ⟨a, b, c, d, s, bl, t, nm, hrow, _⟩ := h.1 _ (List.getElem_mem hi)
  have hc : cellAt es i 0 = es[i].getD 0 .junk := by simp [cellAt, List.getD_eq_getElem?_getD, List.getElem?_eq_getElem hi]
  rw [hc, hrow]
  rfl
/-- The first node of a number, in any row. -/
def frI (es : List (List AV)) (k : Int) : List AV := (es.find? fun e => inI e == k).getD zN
def fhI (es : List (List AV)) (k : Int) : Bool := es.any fun e => inI e == k
def CGt3 : List AV → Prop
  | [.agg [.int .i64 _, .int .i64 _, .int .i64 _, .sl 8 false es], .int .i64 _] => ShNodes es
  | _ => False
def gGt3 : List AV → AV
  | [.agg [_, _, _, .sl _ _ es], .int _ k] => .tup [nA (frI es k), .bool (fhI es k)]
  | _ => .junk
theorem isFun_18 : IsFun Try.prog 18 Try.f18 := ⟨Try.func18, by kernel_rfl, by kernel_rfl⟩
def GE18 : GE := fun f => match f with
  | 44 => some (.fn CNo3 gId1)
  | _ => none
theorem GE18_sound : Sound Try.prog GE18 := by
  intro f sp h
  unfold GE18 at h
  split at h
  · cases h; exact fn44
  · cases h
theorem v18 (a b c : Int) (es : List (List AV)) (k : Int) (Φ : AV → Ent → Prop) : wFunC te GE18 Try.f18 [(dA a b c es), (.int .i64 k)] [] (datFin Φ) = (wLoopC 0 (wCodeC te GE18 0 (bodyAt Try.f18 [false, true, false, true, true])) ⟨((dA a b c es) :: ((.int .i64 k) :: ((.ptr 0 0) :: (jk 1 ((.ptr 1 0) :: ((.bool false) :: ((.int .i64 0) :: (jk 22 [])))))))), [(dV a b c es), (.var [(.int .i64 0), (.int .i64 0), (.int .i64 0), (.int .i64 0), (.int .i64 0), (.sl 2 true ([] : List (List AV))), (.str ⟨#[]⟩), (.sl 2 true ([] : List (List AV)))])]⟩ (blkQ 0 (seqQ (wCodeC te GE18 0 (bodyAt Try.f18 [false, false])) (endQ te Try.f18 (datFin Φ))))) := by kernel_rfl
def t18 (a b c : Int) (es : List (List AV)) (k i : Int) : St := ⟨(jk 1 ((.int .i64 k) :: ((.ptr 0 0) :: (jk 1 ((.ptr 1 0) :: (jk 1 ((.int .i64 i) :: (jk 22 [])))))))), [(dV a b c es), (.var [(.int .i64 0), (.int .i64 0), (.int .i64 0), (.int .i64 0), (.int .i64 0), (.sl 2 true ([] : List (List AV))), (.str ⟨#[]⟩), (.sl 2 true ([] : List (List AV)))])]⟩
def k18 : List Bool := [false, true, true, false, true, false, true, false, false, false, false, false, false, false, false, false, false, false, false, false, false, false, false, false, false, false, false, false, false]
theorem b18 (a b c : Int) (es : List (List AV)) (k i : Int) (K : KontX) (Φ : AV → Ent → Prop) : wCodeC te GE18 0 (bodyAt Try.f18 [false, true, false, true, true]) (t18 a b c es k i) (cutK ((endQ te Try.f18 (datFin Φ)) .ret) k18 2 K) = (ifB (!leI (es.length : Int) i) ((0 ≤ i ∧ i < (es.length : Int)) ∧ (∃ n43, cellAt es i.toNat 0 = (.int .i64 n43) ∧ (ifB (n43 == k) ((0 ≤ i ∧ i < (es.length : Int)) ∧ (∃ n44, cellAt es i.toNat 0 = (.int .i64 n44) ∧ ∃ n45, cellAt es i.toNat 1 = (.int .i64 n45) ∧ ∃ n46, cellAt es i.toNat 2 = (.int .i64 n46) ∧ ∃ n47, cellAt es i.toNat 3 = (.int .i64 n47) ∧ ∃ n48, cellAt es i.toNat 4 = (.int .i64 n48) ∧ ∃ r49, cellAt es i.toNat 5 = (.sl 2 false r49) ∧ ∃ s50, cellAt es i.toNat 6 = (.str s50) ∧ ∃ r51, cellAt es i.toNat 7 = (.sl 2 false r51) ∧ (CNo3 [(.agg [(.int .i64 n44), (.int .i64 n45), (.int .i64 n46), (.int .i64 n47), (.int .i64 n48), (.sl 2 false r49), (.str s50), (.sl 2 false r51)])] ∧ (Φ (.tup [(.agg [(.int .i64 n44), (.int .i64 n45), (.int .i64 n46), (.int .i64 n47), (.int .i64 n48), (.sl 2 false r49), (.str s50), (.sl 2 false r51)]), (.bool true)]) .none)))) (K .normal (t18 a b c es k (IntKind.i64.wrap (i + 1))))))) (K (.exit 0) (t18 a b c es k i))) := by kernel_rfl
theorem e18 (a b c : Int) (es : List (List AV)) (k i : Int) (Φ : AV → Ent → Prop) : wCodeC te GE18 0 (bodyAt Try.f18 [false, false]) (t18 a b c es k i) (endQ te Try.f18 (datFin Φ)) = (Φ (.tup [(.agg [(.int .i64 0), (.int .i64 0), (.int .i64 0), (.int .i64 0), (.int .i64 0), (.sl 2 false ([] : List (List AV))), (.str ⟨#[]⟩), (.sl 2 false ([] : List (List AV)))]), (.bool false)]) .none) := by kernel_rfl
theorem fr_none {es : List (List AV)} {k : Int} (h : ∀ e ∈ es, inI e ≠ k) : frI es k = zN ∧ fhI es k = false := by
  constructor
  · unfold frI
    rw [List.find?_eq_none.2 (fun e he => by simpa using h e he)]
    rfl
  · unfold fhI
    rw [List.any_eq_false]
    exact fun e he => by simpa using h e he
theorem fr_at {es : List (List AV)} {k : Int} {i : Nat} (hi : i < es.length) (hk : inI es[i] = k) (h : ∀ e ∈ es.take i, inI e ≠ k) : frI es k = es[i] ∧ fhI es k = true := by
  refine ⟨?_, by unfold fhI; rw [List.any_eq_true]; exact ⟨es[i], List.getElem_mem hi, by simpa using hk⟩⟩
  have hcat : es = es.take i ++ es[i] :: es.drop (i + 1) := by rw [List.getElem_cons_drop, List.take_append_drop]
  generalize es[i] = r at *
  unfold frI
  rw [hcat, List.find?_append, List.find?_eq_none.2 (fun e he => by simpa using h e he), Option.none_or, List.find?_cons_of_pos (by simpa using hk)]
  rfl
theorem fn18 : SpecSound Try.prog 18 (.fn CGt3 gGt3) := dat_soundC te_ok GE18_sound mixed isFun_18 (by
  rintro xs Φ ⟨hC, h⟩
  unfold CGt3 at hC
  split at hC
  · rename_i a b c es k
    have hn : ShNodes es := hC
    have hl := hn.2
    refine Eq.mpr (v18 ..) ?_
    refine loopC k18 2 (fun n st => ∃ i : Nat, i + n = es.length ∧ st = t18 a b c es k i ∧ ∀ e ∈ es.take i, inI e ≠ k) (by omega) ⟨es.length, _, ⟨0, by omega, rfl, by simp⟩, reT_to k18 2 rfl (by omega) rfl⟩ ?_
    rintro n st ⟨i, hi, rfl, hinv⟩
    refine Eq.mpr (b18 ..) ?_
    refine ifB_both (fun c1 => ?_) (fun c1 => ?_)
    · have c1' := lt_of_nleI c1
      have hlt : i < es.length := by omega
      have hi' : (0 : Int) ≤ i ∧ (i : Int) < (es.length : Int) := by omega
      have hw : IntKind.i64.wrap ((i : Int) + 1) = ((i + 1 : Nat) : Int) := by rw [IntWalk.i64_in _ (by omega)]; omega
      refine ⟨hi', inI es[i], by rw [Int.toNat_natCast]; exact ino_cell hn hlt, ifB_both (fun c2 => ?_) (fun c2 => ?_)⟩
      · obtain ⟨f1, f2⟩ := fr_at hlt (eq_of_beq c2) hinv
        have hnode := hn.1 _ (List.getElem_mem hlt)
        refine ⟨hi', exSh hn hlt ⟨?_, ?_⟩⟩
        · show ShNode (cells es[i])
          rw [shNode_cells hnode]
          exact hnode
        · have h' : Φ (.tup [nA (frI es k), .bool (fhI es k)]) .none := h
          rw [f1, f2] at h'
          exact h'
      · have hak := ne_of_beq_false c2
        rw [hw]
        refine rc_next (n - 1) (by omega) ⟨i + 1, by omega, rfl, fun e he' => ?_⟩
        rw [List.take_add_one, List.getElem?_eq_getElem hlt] at he'
        rcases List.mem_append.1 he' with he' | he'
        · exact hinv e he'
        · simp at he'
          subst he'
          exact hak
    · have c1' := le_of_nleI c1
      refine rc_exit ?_
      refine Eq.mpr (e18 ..) ?_
      rw [List.take_of_length_le (by omega)] at hinv
      obtain ⟨f1, f2⟩ := fr_none hinv
      have h' : Φ (.tup [nA (frI es k), .bool (fhI es k)]) .none := h
      rw [f1, f2] at h'
      exact h'
  · cases hC)
/-! has -/
def IsInts (l : List (List AV)) : Prop := (∀ e ∈ l, ∃ n, e = [.int .i64 n]) ∧ l.length ≤ 1000000000
def hasL (l : List (List AV)) (x : Int) : Bool := l.any fun e => inI e == x
def CHs : List AV → Prop
  | [.sl 1 false l, .int .i64 _] => IsInts l
  | _ => False
def gHs : List AV → AV
  | [.sl _ _ l, .int _ x] => .bool (hasL l x)
  | _ => .junk
theorem isFun_75 : IsFun Try.prog 75 Try.f75 := ⟨Try.func75, by kernel_rfl, by kernel_rfl⟩
theorem v75 (l : List (List AV)) (x : Int) (Φ : AV → Ent → Prop) : wFunC te nGE' Try.f75 [(.sl 1 false l), (.int .i64 x)] [] (datFin Φ) = (wLoopC 0 (wCodeC te nGE' 0 (bodyAt Try.f75 [false, true, false, true, true])) ⟨((.sl 1 false l) :: ((.int .i64 x) :: (jk 2 ((.bool false) :: ((.int .i64 0) :: (jk 12 [])))))), []⟩ (blkQ 0 (seqQ (wCodeC te nGE' 0 (bodyAt Try.f75 [false, false])) (endQ te Try.f75 (datFin Φ))))) := by kernel_rfl
def t75 (l : List (List AV)) (x i : Int) : St := ⟨((.sl 1 false l) :: ((.int .i64 x) :: (jk 3 ((.int .i64 i) :: (jk 12 []))))), []⟩
def k75 : List Bool := [true, true, false, false, false, true, false, false, false, false, false, false, false, false, false, false, false, false]
theorem b75 (l : List (List AV)) (x i : Int) (K : KontX) (Φ : AV → Ent → Prop) : wCodeC te nGE' 0 (bodyAt Try.f75 [false, true, false, true, true]) (t75 l x i) (cutK ((endQ te Try.f75 (datFin Φ)) .ret) k75 0 K) = (ifB (!leI (l.length : Int) i) ((0 ≤ i ∧ i < (l.length : Int)) ∧ (∃ n52, cellAt l i.toNat 0 = (.int .i64 n52) ∧ (ifB (n52 == x) (Φ (.bool true) .none) (K .normal (t75 l x (IntKind.i64.wrap (i + 1))))))) (K (.exit 0) (t75 l x i))) := by kernel_rfl
theorem e75 (l : List (List AV)) (x i : Int) (Φ : AV → Ent → Prop) : wCodeC te nGE' 0 (bodyAt Try.f75 [false, false]) (t75 l x i) (endQ te Try.f75 (datFin Φ)) = (Φ (.bool false) .none) := by kernel_rfl
theorem fn75 : SpecSound Try.prog 75 (.fn CHs gHs) := dat_soundC te_ok nGE'_sound mixed isFun_75 (by
  rintro xs Φ ⟨hC, h⟩
  unfold CHs at hC
  split at hC
  · rename_i l x
    obtain ⟨hrow, hl⟩ := hC
    refine Eq.mpr (v75 ..) ?_
    refine loopC k75 0 (fun n st => ∃ i : Nat, i + n = l.length ∧ st = t75 l x i ∧ ∀ e ∈ l.take i, inI e ≠ x) (by omega) ⟨l.length, _, ⟨0, by omega, rfl, by simp⟩, reT_to k75 0 rfl (by omega) rfl⟩ ?_
    rintro n st ⟨i, hi, rfl, hinv⟩
    refine Eq.mpr (b75 ..) ?_
    refine ifB_both (fun c1 => ?_) (fun c1 => ?_)
    · have c1' := lt_of_nleI c1
      have hlt : i < l.length := by omega
      have hi' : (0 : Int) ≤ i ∧ (i : Int) < (l.length : Int) := by omega
      have hw : IntKind.i64.wrap ((i : Int) + 1) = ((i + 1 : Nat) : Int) := by rw [IntWalk.i64_in _ (by omega)]; omega
      obtain ⟨y, hy⟩ := hrow _ (List.getElem_mem hlt)
      refine ⟨hi', y, ?_, ifB_both (fun c2 => ?_) (fun c2 => ?_)⟩
      · have hc : cellAt l i 0 = l[i].getD 0 .junk := by simp [cellAt, List.getD_eq_getElem?_getD, List.getElem?_eq_getElem hlt]
        rw [Int.toNat_natCast, hc, hy]
        rfl
      · have : hasL l x = true := by
          unfold hasL
          rw [List.any_eq_true]
          exact ⟨l[i], List.getElem_mem hlt, by rw [hy]; exact c2⟩
        have h' : Φ (.bool (hasL l x)) .none := h
        rw [this] at h'
        exact h'
      · rw [hw]
        refine rc_next (n - 1) (by omega) ⟨i + 1, by omega, rfl, fun e he' => ?_⟩
        rw [List.take_add_one, List.getElem?_eq_getElem hlt] at he'
        rcases List.mem_append.1 he' with he' | he'
        · exact hinv e he'
        · simp at he'
          subst he'
          rw [hy]
          exact ne_of_beq_false c2
    · have c1' := le_of_nleI c1
      refine rc_exit ?_
      refine Eq.mpr (e75 ..) ?_
      rw [List.take_of_length_le (by omega)] at hinv
      have : hasL l x = false := by
        unfold hasL
        rw [List.any_eq_false]
        exact fun e he => by simpa using hinv e he
      have h' : Φ (.bool (hasL l x)) .none := h
      rw [this] at h'
      exact h'
  · cases hC)
/-! Named -/
theorem isFun_74 : IsFun Try.prog 74 Try.f74 := ⟨Try.func74, by kernel_rfl, by kernel_rfl⟩
theorem v74 (s : ByteArray) (Φ : AV → Ent → Prop) : wFunC te nGE' Try.f74 [(.str s)] [] (datFin Φ) = (wLoopC 0 (wCodeC te nGE' 0 (bodyAt Try.f74 [false, true, false, true, true])) ⟨((.str s) :: (jk 1 ((.bool false) :: ((.int .i64 0) :: (jk 32 []))))), []⟩ (blkQ 0 (seqQ (wCodeC te nGE' 0 (bodyAt Try.f74 [false, false])) (endQ te Try.f74 (datFin Φ))))) := by kernel_rfl
def t74 (s : ByteArray) (i : Int) : St := ⟨((.str s) :: (jk 2 ((.int .i64 i) :: (jk 32 [])))), []⟩
def k74 : List Bool := [true, false, false, true, false, false, false, false, false, false, false, false, false, false, false, false, false, false, false, false, false, false, false, false, false, false, false, false, false, false, false, false, false, false, false, false]
theorem b74 (s : ByteArray) (i : Int) (K : KontX) (Φ : AV → Ent → Prop) : wCodeC te nGE' 0 (bodyAt Try.f74 [false, true, false, true, true]) (t74 s i) (cutK ((endQ te Try.f74 (datFin Φ)) .ret) k74 0 K) = (ifB (!leI (s.size : Int) i) ((0 ≤ i ∧ i < (s.size : Int)) ∧ (ifB ((sb s i) == 47) (Φ (.bool false) .none) ((0 ≤ i ∧ i < (s.size : Int)) ∧ (ifB ((sb s i) == 0) (Φ (.bool false) .none) (K .normal (t74 s (IntKind.i64.wrap (i + 1)))))))) (K (.exit 0) (t74 s i))) := by kernel_rfl
theorem e74 (s : ByteArray) (i : Int) (Φ : AV → Ent → Prop) : wCodeC te nGE' 0 (bodyAt Try.f74 [false, false]) (t74 s i) (endQ te Try.f74 (datFin Φ)) = (ifB (leI 1 (s.size : Int)) (ifB (leI (s.size : Int) 24) (ifB (!(s.toList == (⟨#[46]⟩ : ByteArray).toList)) (Φ (.bool (!(s.toList == (⟨#[46, 46]⟩ : ByteArray).toList))) .none) (Φ (.bool false) .none)) (Φ (.bool false) .none)) (Φ (.bool false) .none)) := by kernel_rfl
def badB (s : ByteArray) (i : Nat) : Bool := sb s i == 47 || sb s i == 0
def nmdB (s : ByteArray) : Bool := (List.range s.size).all (fun i => !badB s i) && (decide (1 ≤ s.size) && (decide (s.size ≤ 24) && (!(s.toList == (⟨#[46]⟩ : ByteArray).toList) && !(s.toList == (⟨#[46, 46]⟩ : ByteArray).toList))))
def CNd1 : List AV → Prop
  | [.str s] => s.size ≤ 1000000000
  | _ => False
def gNd1 : List AV → AV
  | [.str s] => .bool (nmdB s)
  | _ => .junk
theorem nmd_bad {s : ByteArray} {i : Nat} (hi : i < s.size) (h : badB s i = true) : nmdB s = false := by
  unfold nmdB
  have : (List.range s.size).all (fun i => !badB s i) = false := by
    rw [List.all_eq_false]
    exact ⟨i, List.mem_range.2 hi, by rw [h]; decide⟩
  rw [this]
  rfl
theorem fn74 : SpecSound Try.prog 74 (.fn CNd1 gNd1) := dat_soundC te_ok nGE'_sound mixed isFun_74 (by
  rintro xs Φ ⟨hC, h⟩
  unfold CNd1 at hC
  split at hC
  · rename_i s
    have h' : Φ (.bool (nmdB s)) .none := h
    refine Eq.mpr (v74 ..) ?_
    refine loopC k74 0 (fun n st => ∃ i : Nat, i + n = s.size ∧ st = t74 s i ∧ ∀ j < i, badB s j = false) (by omega) ⟨s.size, _, ⟨0, by omega, rfl, by simp⟩, reT_to k74 0 rfl (by omega) rfl⟩ ?_
    rintro n st ⟨i, hi, rfl, hinv⟩
    refine Eq.mpr (b74 ..) ?_
    refine ifB_both (fun c1 => ?_) (fun c1 => ?_)
    · have c1' := lt_of_nleI c1
      have hlt : i < s.size := by omega
      have hi' : (0 : Int) ≤ i ∧ (i : Int) < (s.size : Int) := by omega
      have hw : IntKind.i64.wrap ((i : Int) + 1) = ((i + 1 : Nat) : Int) := by rw [IntWalk.i64_in _ (by omega)]; omega
      refine ⟨hi', ifB_both (fun c2 => ?_) (fun c2 => ⟨hi', ifB_both (fun c3 => ?_) (fun c3 => ?_)⟩)⟩
      · rw [nmd_bad hlt (by unfold badB; rw [c2]; rfl)] at h'
        exact h'
      · rw [nmd_bad hlt (by unfold badB; rw [c3]; simp)] at h'
        exact h'
      · rw [hw]
        refine rc_next (n - 1) (by omega) ⟨i + 1, by omega, rfl, fun j hj => ?_⟩
        rcases Nat.lt_or_ge j i with hji | hji
        · exact hinv j hji
        · have : j = i := by omega
          subst this
          unfold badB
          rw [c2, c3]
          rfl
    · have c1' := le_of_nleI c1
      refine rc_exit ?_
      refine Eq.mpr (e74 ..) ?_
      have hall : (List.range s.size).all (fun i => !badB s i) = true := by
        rw [List.all_eq_true]
        intro j hj
        have hj' := List.mem_range.1 hj
        rw [hinv j (by omega)]
        rfl
      unfold nmdB at h'
      rw [hall, Bool.true_and] at h'
      refine ifB_both (fun c2 => ?_) (fun c2 => ?_)
      · have c2' := le_of_leI c2
        rw [decide_eq_true (show 1 ≤ s.size by omega), Bool.true_and] at h'
        refine ifB_both (fun c3 => ?_) (fun c3 => ?_)
        · have c3' := le_of_leI c3
          rw [decide_eq_true (show s.size ≤ 24 by omega), Bool.true_and] at h'
          refine ifB_both (fun c4 => ?_) (fun c4 => ?_)
          · rw [c4, Bool.true_and] at h'
            exact h'
          · rw [c4, Bool.false_and] at h'
            exact h'
        · have c3' := lt_of_leI c3
          rw [decide_eq_false (show ¬ s.size ≤ 24 by omega), Bool.false_and] at h'
          exact h'
      · have c2' := lt_of_leI c2
        rw [decide_eq_false (show ¬ 1 ≤ s.size by omega), Bool.false_and] at h'
        exact h'
  · cases hC)
/-! named -/
theorem isFun_46 : IsFun Try.prog 46 Try.f46 := ⟨Try.func46, by kernel_rfl, by kernel_rfl⟩
theorem v46 (a b c : Int) (es : List (List AV)) (k : Int) (Φ : AV → Ent → Prop) : wFunC te nGE' Try.f46 [(dA a b c es), (.int .i64 k)] [] (datFin Φ) = (wLoopC 0 (wCodeC te nGE' 0 (bodyAt Try.f46 [false, false, true, false, true, true])) ⟨((dA a b c es) :: ((.int .i64 k) :: ((.ptr 0 0) :: (jk 1 ((.int .i64 0) :: ((.int .i64 0) :: ((.int .i64 0) :: (jk 34 [])))))))), [(dV a b c es)]⟩ (blkQ 0 (seqQ (wCodeC te nGE' 0 (bodyAt Try.f46 [false, false, false])) (endQ te Try.f46 (datFin Φ))))) := by kernel_rfl
def t46 (a b c : Int) (es : List (List AV)) (k n i : Int) : St := ⟨(jk 1 ((.int .i64 k) :: ((.ptr 0 0) :: (jk 2 ((.int .i64 n) :: ((.int .i64 i) :: (jk 34 []))))))), [(dV a b c es)]⟩
def k46 : List Bool := [false, true, true, false, false, true, true, false, false, false, false, false, false, false, false, false, false, false, false, false, false, false, false, false, false, false, false, false, false, false, false, false, false, false, false, false, false, false, false, false, false]
theorem b46 (a b c : Int) (es : List (List AV)) (k n i : Int) (K : KontX) (Φ : AV → Ent → Prop) : wCodeC te nGE' 0 (bodyAt Try.f46 [false, false, true, false, true, true]) (t46 a b c es k n i) (cutK ((endQ te Try.f46 (datFin Φ)) .ret) k46 1 K) = (ifB (!leI (es.length : Int) i) (wLoopC 0 (wCodeC te nGE' 0 (bodyAt Try.f46 [false, false, true, false, true, true, false, true, true, false, true, true])) ⟨(jk 1 ((.int .i64 k) :: ((.ptr 0 0) :: (jk 2 ((.int .i64 n) :: ((.int .i64 i) :: ((.int .i64 0) :: ((.int .i64 i) :: ((.ptr 0 3) :: ((.sl 8 false es) :: ((.int .i64 (es.length : Int)) :: ((.bool (!leI (es.length : Int) i)) :: (jk 28 []))))))))))))), [(dV a b c es)]⟩ (blkQ 2 (blkQ 1 (seqQ (wCodeC te nGE' 0 (bodyAt Try.f46 [false, false, true, false, true, true, false, false])) (cutK ((endQ te Try.f46 (datFin Φ)) .ret) k46 1 K))))) (K (.exit 0) (t46 a b c es k n i))) := by kernel_rfl
theorem e46 (a b c : Int) (es : List (List AV)) (k n i : Int) (Φ : AV → Ent → Prop) : wCodeC te nGE' 0 (bodyAt Try.f46 [false, false, false]) (t46 a b c es k n i) (endQ te Try.f46 (datFin Φ)) = (Φ (.int .i64 n) .none) := by kernel_rfl
def t46_1 (a b c : Int) (es : List (List AV)) (k n i j : Int) : St := ⟨(jk 1 ((.int .i64 k) :: ((.ptr 0 0) :: (jk 2 ((.int .i64 n) :: ((.int .i64 i) :: ((.int .i64 j) :: (jk 33 [])))))))), [(dV a b c es)]⟩
def k46_1 : List Bool := [false, true, true, false, false, true, true, true, false, false, false, false, false, false, false, false, false, false, false, false, false, false, false, false, false, false, false, false, false, false, false, false, false, false, false, false, false, false, false, false, false]
theorem b46_1 (a b c : Int) (es : List (List AV)) (k n i j : Int) (K : KontX) (Φ : AV → Ent → Prop) : wCodeC te nGE' 0 (bodyAt Try.f46 [false, false, true, false, true, true, false, true, true, false, true, true]) (t46_1 a b c es k n i j) (cutK ((endQ te Try.f46 (datFin Φ)) .ret) k46_1 1 K) = ((0 ≤ i ∧ i < (es.length : Int)) ∧ (∃ r53, cellAt es i.toNat 7 = (.sl 2 false r53) ∧ (ifB (!leI (r53.length : Int) j) ((0 ≤ i ∧ i < (es.length : Int)) ∧ (∃ r54, cellAt es i.toNat 7 = (.sl 2 false r54) ∧ ((0 ≤ j ∧ j < (r54.length : Int)) ∧ (∃ n55, cellAt r54 j.toNat 1 = (.int .i64 n55) ∧ (ifB (n55 == k) (K .normal (t46_1 a b c es k (IntKind.i64.wrap (n + 1)) i (IntKind.i64.wrap (j + 1)))) (K .normal (t46_1 a b c es k n i (IntKind.i64.wrap (j + 1))))))))) (K (.exit 2) (t46_1 a b c es k n i j))))) := by kernel_rfl
theorem e46_1 (a b c : Int) (es : List (List AV)) (k n i j : Int) (K : KontX) (Φ : AV → Ent → Prop) : wCodeC te nGE' 0 (bodyAt Try.f46 [false, false, true, false, true, true, false, false]) (t46_1 a b c es k n i j) (cutK ((endQ te Try.f46 (datFin Φ)) .ret) k46 1 K) = (K .normal (t46 a b c es k n (IntKind.i64.wrap (i + 1)))) := by kernel_rfl
def cntN (nm : List (List AV)) (k : Int) : Nat := (nm.filter fun e => inN e == k).length
def cntD (es : List (List AV)) (k : Int) : Nat := (es.map fun r => cntN (sI r 7) k).sum
def CNm3 : List AV → Prop := CGt3
def gNm3 : List AV → AV
  | [.agg [_, _, _, .sl _ _ es], .int _ k] => .int .i64 (cntD es k : Int)
  | _ => .junk
theorem cnt_take {es : List (List AV)} {k : Int} {i : Nat} (hi : i < es.length) : cntD (es.take (i + 1)) k = cntD (es.take i) k + cntN (sI es[i] 7) k := by
  unfold cntD
  rw [List.take_add_one, List.getElem?_eq_getElem hi, List.map_append, List.sum_append]
  simp
theorem cntN_take {nm : List (List AV)} {k : Int} {i : Nat} (hi : i < nm.length) : cntN (nm.take (i + 1)) k = cntN (nm.take i) k + (if inN nm[i] = k then 1 else 0) := by
  unfold cntN
  rw [List.take_add_one, List.getElem?_eq_getElem hi, List.filter_append, List.length_append]
  congr 1
  by_cases h : inN nm[i] = k
  · simp [h]
  · simp [h]
theorem cntN_le (nm : List (List AV)) (k : Int) : cntN nm k ≤ nm.length := List.length_filter_le _ _
theorem cntD_le {es : List (List AV)} (h : ∀ r ∈ es, (sI r 7).length ≤ 1000000000) (k : Int) : cntD es k ≤ es.length * 1000000000 := by
  unfold cntD
  induction es with
  | nil => simp
  | cons r es ih =>
    have h1 := h r (by simp)
    have h2 := ih (fun r' hr' => h r' (by simp [hr']))
    have h3 := cntN_le (sI r 7) k
    simp only [List.map_cons, List.sum_cons, List.length_cons]
    omega
theorem shNames_of {r : List AV} (h : ShNode r) : ShNames (sI r 7) := by
  obtain ⟨a, b, c, d, s, bl, t, nm, rfl, _, h, _⟩ := h
  exact h
theorem names_cell {es : List (List AV)} (h : ShNodes es) {i : Nat} (hi : i < es.length) : cellAt es i 7 = .sl 2 false (sI es[i] 7) := by
  obtain ⟨a, b, c, d, s, bl, t, nm, hrow, _⟩ := h.1 _ (List.getElem_mem hi)
  have hc : cellAt es i 7 = es[i].getD 7 .junk := by simp [cellAt, List.getD_eq_getElem?_getD, List.getElem?_eq_getElem hi]
  rw [hc, hrow]
  rfl
theorem fn46 : SpecSound Try.prog 46 (.fn CNm3 gNm3) := dat_soundC te_ok nGE'_sound mixed isFun_46 (by
  rintro xs Φ ⟨hC, h⟩
  unfold CNm3 CGt3 at hC
  split at hC
  · rename_i a b c es k
    have hn : ShNodes es := hC
    have hl := hn.2
    have h' : Φ (.int .i64 (cntD es k : Int)) .none := h
    have hbd : ∀ j, cntD (es.take j) k ≤ 1000000000000000000 := fun j => by
      have h1 := cntD_le (es := es.take j) (fun r hr => (shNames_of (hn.1 r (List.mem_of_mem_take hr))).2) k
      have : (es.take j).length ≤ es.length := by simp; omega
      have := Nat.mul_le_mul_right 1000000000 (Nat.le_trans this hl)
      omega
    refine Eq.mpr (v46 ..) ?_
    refine loopC k46 1 (fun n st => ∃ i : Nat, i + n = es.length ∧ st = t46 a b c es k (cntD (es.take i) k) i) (by omega) ⟨es.length, _, ⟨0, by omega, rfl⟩, reT_to k46 1 rfl (by omega) rfl⟩ ?_
    rintro n st ⟨i, hi, rfl⟩
    refine Eq.mpr (b46 ..) ?_
    refine ifB_both (fun c1 => ?_) (fun c1 => ?_)
    · have c1' := lt_of_nleI c1
      have hlt : i < es.length := by omega
      have hi' : (0 : Int) ≤ i ∧ (i : Int) < (es.length : Int) := by omega
      have hnm := shNames_of (hn.1 _ (List.getElem_mem hlt))
      have hnl := hnm.2
      have hbi := hbd i
      have hw : IntKind.i64.wrap ((i : Int) + 1) = ((i + 1 : Nat) : Int) := by rw [IntWalk.i64_in _ (by omega)]; omega
      have hq : cellAt es ((i : Int)).toNat 7 = .sl 2 false (sI es[i] 7) := by rw [Int.toNat_natCast]; exact names_cell hn hlt
      refine loopQ ((endQ te Try.f46 (datFin Φ)) .ret) rfl k46_1 1 (fun m st => ∃ j : Nat, j + m = (sI es[i] 7).length ∧ st = t46_1 a b c es k ((cntD (es.take i) k + cntN ((sI es[i] 7).take j) k : Nat) : Int) i j) (by omega) ⟨_, _, ⟨0, Nat.zero_add _, rfl⟩, reT_to k46_1 1 rfl (by omega) rfl⟩ ?_
      rintro m st ⟨j, hj, rfl⟩
      refine Eq.mpr (b46_1 ..) ⟨hi', _, hq, ifB_both (fun c2 => ?_) (fun c2 => ?_)⟩
      · have c2' := lt_of_nleI c2
        have hjl : j < (sI es[i] 7).length := by omega
        have hj' : (0 : Int) ≤ j ∧ (j : Int) < ((sI es[i] 7).length : Int) := by omega
        obtain ⟨s, x, hrow, q0, q1, _⟩ := shName_at hnm hjl
        have hx : inN (sI es[i] 7)[j] = x := by rw [hrow]; rfl
        have hct := cntN_take (k := k) hjl
        have hle := cntN_le ((sI es[i] 7).take j) k
        have hle2 : ((sI es[i] 7).take j).length ≤ (sI es[i] 7).length := by simp; omega
        have hw2 : IntKind.i64.wrap ((j : Int) + 1) = ((j + 1 : Nat) : Int) := by rw [IntWalk.i64_in _ (by omega)]; omega
        rw [hx] at hct
        refine ⟨hi', _, hq, hj', x, by rw [Int.toNat_natCast]; exact q1, ifB_both (fun c3 => ?_) (fun c3 => ?_)⟩
        · rw [if_pos (eq_of_beq c3)] at hct
          have hw3 : IntKind.i64.wrap (((cntD (es.take i) k + cntN ((sI es[i] 7).take j) k : Nat) : Int) + 1) = ((cntD (es.take i) k + cntN ((sI es[i] 7).take (j + 1)) k : Nat) : Int) := by rw [IntWalk.i64_in _ (by omega)]; omega
          rw [hw2, hw3]
          exact rc_next (m - 1) (by omega) ⟨j + 1, by omega, rfl⟩
        · rw [if_neg (ne_of_beq_false c3)] at hct
          have hct' : cntN ((sI es[i] 7).take (j + 1)) k = cntN ((sI es[i] 7).take j) k := hct
          rw [hw2, ← hct']
          exact rc_next (m - 1) (by omega) ⟨j + 1, by omega, rfl⟩
      · have c2' := le_of_nleI c2
        refine rc_exit2 ?_
        refine Eq.mpr (e46_1 ..) ?_
        rw [hw, List.take_of_length_le (l := sI es[i] 7) (by omega), ← cnt_take hlt]
        exact rc_next (n - 1) (by omega) ⟨i + 1, by omega, rfl⟩
    · have c1' := le_of_nleI c1
      refine rc_exit ?_
      refine Eq.mpr (e46 ..) ?_
      rw [List.take_of_length_le (by omega)]
      exact h'
  · cases hC)
/-! ref2.Is -/
theorem isFun_73 : IsFun Try.prog 73 Try.f73 := ⟨Try.func73, by kernel_rfl, by kernel_rfl⟩
theorem v73 (z : Int) (bl : List (List AV)) (Φ : AV → Ent → Prop) : wFunC te nGE' Try.f73 [(fA z bl)] [] (datFin Φ) = (ifB (!leI 0 z) (Φ (.bool false) .none) (ifB (!leI z 32768) (Φ (.bool false) .none) (wLoopC 0 (wCodeC te nGE' 0 (bodyAt Try.f73 [false, false, true, false, true, true])) ⟨((fA z bl) :: ((.ptr 0 0) :: ((.bool false) :: ((.int .i64 0) :: (jk 2 ((.ptr 0 0) :: ((.int .i64 z) :: ((.bool (!leI 0 z)) :: ((.bool false) :: ((.ptr 0 0) :: ((.int .i64 z) :: ((.bool (!leI z 32768)) :: ((.bool (!leI z 32768)) :: (jk 70 [])))))))))))))), [(.var [(.int .i64 z), (.sl 2 false bl)])]⟩ (blkQ 0 (seqQ (wCodeC te nGE' 0 (bodyAt Try.f73 [false, false, false])) (endQ te Try.f73 (datFin Φ))))))) := by kernel_rfl
def t73 (z : Int) (bl : List (List AV)) (i : Int) : St := ⟨(jk 1 ((.ptr 0 0) :: (jk 1 ((.int .i64 i) :: (jk 80 []))))), [(.var [(.int .i64 z), (.sl 2 false bl)])]⟩
def k73 : List Bool := [false, true, false, true, false, false, false, false, false, false, false, false, false, false, false, false, false, false, false, false, false, false, false, false, false, false, false, false, false, false, false, false, false, false, false, false, false, false, false, false, false, false, false, false, false, false, false, false, false, false, false, false, false, false, false, false, false, false, false, false, false, false, false, false, false, false, false, false, false, false, false, false, false, false, false, false, false, false, false, false, false, false, false, false]
theorem b73 (z : Int) (bl : List (List AV)) (i : Int) (K : KontX) (Φ : AV → Ent → Prop) : wCodeC te nGE' 0 (bodyAt Try.f73 [false, false, true, false, true, true]) (t73 z bl i) (cutK ((endQ te Try.f73 (datFin Φ)) .ret) k73 1 K) = (ifB (!leI (bl.length : Int) i) ((0 ≤ i ∧ i < (bl.length : Int)) ∧ (∃ n56, cellAt bl i.toNat 0 = (.int .i64 n56) ∧ ∃ r57, cellAt bl i.toNat 1 = (.sl 1 false r57) ∧ (ifB (!leI 0 n56) (Φ (.bool false) .none) (ifB (leI 32768 n56) (Φ (.bool false) .none) (ifB (leI z (IntKind.i64.wrap (n56 * 16))) (Φ (.bool false) .none) (ifB ((r57.length : Int) != 16) (Φ (.bool false) .none) (ifB (!leI i 0) ((0 ≤ (IntKind.i64.wrap (i - 1)) ∧ (IntKind.i64.wrap (i - 1)) < (bl.length : Int)) ∧ (∃ n58, cellAt bl (IntKind.i64.wrap (i - 1)).toNat 0 = (.int .i64 n58) ∧ (ifB (leI n56 n58) (Φ (.bool false) .none) (wLoopC 0 (wCodeC te nGE' 0 (bodyAt Try.f73 [false, false, true, false, true, true, false, true, true, false, false, false, true, true])) ⟨(jk 1 ((.ptr 0 0) :: (jk 1 ((.int .i64 i) :: ((.ptr 1 0) :: ((.int .i64 0) :: (jk 8 ((.int .i64 i) :: ((.ptr 0 1) :: ((.sl 2 false bl) :: ((.int .i64 (bl.length : Int)) :: ((.bool (!leI (bl.length : Int) i)) :: (jk 2 ((.ptr 0 1) :: ((.sl 2 false bl) :: ((.int .i64 i) :: ((.rptr 2 bl i.toNat 0) :: ((.agg [(.int .i64 n56), (.sl 1 false r57)]) :: ((.ptr 1 0) :: ((.int .i64 n56) :: ((.bool (!leI 0 n56)) :: ((.bool false) :: ((.ptr 1 0) :: ((.int .i64 n56) :: ((.bool (leI 32768 n56)) :: ((.bool (leI 32768 n56)) :: ((.bool false) :: ((.ptr 1 0) :: ((.int .i64 n56) :: ((.int .i64 (IntKind.i64.wrap (n56 * 16))) :: ((.ptr 0 0) :: ((.int .i64 z) :: ((.bool (leI z (IntKind.i64.wrap (n56 * 16)))) :: ((.bool (leI z (IntKind.i64.wrap (n56 * 16)))) :: ((.bool false) :: ((.ptr 1 1) :: ((.sl 1 false r57) :: ((.int .i64 (r57.length : Int)) :: ((.bool ((r57.length : Int) != 16)) :: ((.bool ((r57.length : Int) != 16)) :: ((.bool false) :: ((.int .i64 i) :: ((.bool (!leI i 0)) :: ((.bool true) :: ((.ptr 1 0) :: ((.int .i64 n56) :: ((.ptr 0 1) :: ((.sl 2 false bl) :: ((.int .i64 i) :: ((.int .i64 (IntKind.i64.wrap (i - 1))) :: ((.rptr 2 bl (IntKind.i64.wrap (i - 1)).toNat 0) :: ((.rptr 2 bl (IntKind.i64.wrap (i - 1)).toNat 0) :: ((.int .i64 n58) :: ((.bool (leI n56 n58)) :: ((.bool (leI n56 n58)) :: ((.bool (leI n56 n58)) :: (jk 20 []))))))))))))))))))))))))))))))))))))))))))))))))))))))))), [(.var [(.int .i64 z), (.sl 2 false bl)]), (.var [(.int .i64 n56), (.sl 1 false r57)]), .none, .none, .none, .none, .none, .none, .none, .none, .none, .none, .none, .none, .none, .none, .none, .none, .none, .none, .none, .none, .none, .none, .none, .none, .none, .none, .none, .none, .none, .none, .none, .none, .none, .none, .none]⟩ (blkQ 2 (blkQ 1 (seqQ (wCodeC te nGE' 0 (bodyAt Try.f73 [false, false, true, false, true, true, false, false])) (cutK ((endQ te Try.f73 (datFin Φ)) .ret) k73 1 K)))))))) (wLoopC 0 (wCodeC te nGE' 0 (bodyAt Try.f73 [false, false, true, false, true, true, false, true, true, false, false, false, true, true])) ⟨(jk 1 ((.ptr 0 0) :: (jk 1 ((.int .i64 i) :: ((.ptr 1 0) :: ((.int .i64 0) :: (jk 8 ((.int .i64 i) :: ((.ptr 0 1) :: ((.sl 2 false bl) :: ((.int .i64 (bl.length : Int)) :: ((.bool (!leI (bl.length : Int) i)) :: (jk 2 ((.ptr 0 1) :: ((.sl 2 false bl) :: ((.int .i64 i) :: ((.rptr 2 bl i.toNat 0) :: ((.agg [(.int .i64 n56), (.sl 1 false r57)]) :: ((.ptr 1 0) :: ((.int .i64 n56) :: ((.bool (!leI 0 n56)) :: ((.bool false) :: ((.ptr 1 0) :: ((.int .i64 n56) :: ((.bool (leI 32768 n56)) :: ((.bool (leI 32768 n56)) :: ((.bool false) :: ((.ptr 1 0) :: ((.int .i64 n56) :: ((.int .i64 (IntKind.i64.wrap (n56 * 16))) :: ((.ptr 0 0) :: ((.int .i64 z) :: ((.bool (leI z (IntKind.i64.wrap (n56 * 16)))) :: ((.bool (leI z (IntKind.i64.wrap (n56 * 16)))) :: ((.bool false) :: ((.ptr 1 1) :: ((.sl 1 false r57) :: ((.int .i64 (r57.length : Int)) :: ((.bool ((r57.length : Int) != 16)) :: ((.bool ((r57.length : Int) != 16)) :: ((.bool false) :: ((.int .i64 i) :: ((.bool (!leI i 0)) :: ((.bool false) :: ((.tup []) :: ((.tup []) :: ((.tup []) :: ((.tup []) :: ((.tup []) :: ((.tup []) :: ((.tup []) :: ((.tup []) :: ((.tup []) :: ((.tup []) :: ((.bool false) :: ((.bool false) :: (jk 20 []))))))))))))))))))))))))))))))))))))))))))))))))))))))))), [(.var [(.int .i64 z), (.sl 2 false bl)]), (.var [(.int .i64 n56), (.sl 1 false r57)]), .none, .none, .none, .none, .none, .none, .none, .none, .none, .none, .none, .none, .none, .none, .none, .none, .none, .none, .none, .none, .none, .none, .none, .none, .none, .none, .none, .none, .none, .none, .none, .none, .none, .none, .none]⟩ (blkQ 2 (blkQ 1 (seqQ (wCodeC te nGE' 0 (bodyAt Try.f73 [false, false, true, false, true, true, false, false])) (cutK ((endQ te Try.f73 (datFin Φ)) .ret) k73 1 K)))))))))))) (K (.exit 0) (t73 z bl i))) := by kernel_rfl
theorem e73 (z : Int) (bl : List (List AV)) (i : Int) (Φ : AV → Ent → Prop) : wCodeC te nGE' 0 (bodyAt Try.f73 [false, false, false]) (t73 z bl i) (endQ te Try.f73 (datFin Φ)) = (Φ (.bool true) .none) := by kernel_rfl
def t73_1 (z : Int) (bl : List (List AV)) (i j a : Int) (d : List (List AV)) : St := ⟨(jk 1 ((.ptr 0 0) :: (jk 1 ((.int .i64 i) :: ((.ptr 1 0) :: ((.int .i64 j) :: (jk 78 []))))))), [(.var [(.int .i64 z), (.sl 2 false bl)]), (.var [(.int .i64 a), (.sl 1 false d)])]⟩
def k73_1 : List Bool := [false, true, false, true, true, true, false, false, false, false, false, false, false, false, false, false, false, false, false, false, false, false, false, false, false, false, false, false, false, false, false, false, false, false, false, false, false, false, false, false, false, false, false, false, false, false, false, false, false, false, false, false, false, false, false, false, false, false, false, false, false, false, false, false, false, false, false, false, false, false, false, false, false, false, false, false, false, false, false, false, false, false, false, false]
theorem b73_1 (z : Int) (bl : List (List AV)) (i j a : Int) (d : List (List AV)) (K : KontX) (Φ : AV → Ent → Prop) : wCodeC te nGE' 0 (bodyAt Try.f73 [false, false, true, false, true, true, false, true, true, false, false, false, true, true]) (t73_1 z bl i j a d) (cutK ((endQ te Try.f73 (datFin Φ)) .ret) k73_1 2 K) = (ifB (!leI 16 j) (ifB (leI z (IntKind.i64.wrap ((IntKind.i64.wrap (a * 16)) + j))) ((0 ≤ j ∧ j < (d.length : Int)) ∧ (∃ n59, cellAt d j.toNat 0 = (.int .u8 n59) ∧ (ifB (n59 != 0) (Φ (.bool false) .none) (K .normal (t73_1 z bl i (IntKind.i64.wrap (j + 1)) a d))))) (K .normal (t73_1 z bl i (IntKind.i64.wrap (j + 1)) a d))) (K (.exit 2) (t73_1 z bl i j a d))) := by kernel_rfl
theorem e73_1 (z : Int) (bl : List (List AV)) (i j a : Int) (d : List (List AV)) (K : KontX) (Φ : AV → Ent → Prop) : wCodeC te nGE' 0 (bodyAt Try.f73 [false, false, true, false, true, true, false, false]) (t73_1 z bl i j a d) (cutK ((endQ te Try.f73 (datFin Φ)) .ret) k73 1 K) = (K .normal (t73 z bl (IntKind.i64.wrap (i + 1)))) := by kernel_rfl
theorem phi_b {Φ : AV → Ent → Prop} {b b' : Bool} (h : Φ (.bool b) .none) (e : b = b') : Φ (.bool b') .none := e ▸ h
theorem all_bad {n i : Nat} {f : Nat → Bool} (hi : i < n) (h : f i = false) : (List.range n).all f = false := by
  rw [List.all_eq_false]
  exact ⟨i, List.mem_range.2 hi, by rw [h]; decide⟩
theorem all_ok {n : Nat} {f : Nat → Bool} (h : ∀ j < n, f j = true) : (List.range n).all f = true := by
  rw [List.all_eq_true]
  exact fun j hj => h j (List.mem_range.1 hj)
/-- What lies behind a file's end is zero. -/
def tlB (z a : Int) (d : List (List AV)) (j : Nat) : Bool := !leI z (a * 16 + (j : Int)) || inI (d.getD j []) == 0
def bkB (z : Int) (bl : List (List AV)) (i : Nat) : Bool :=
  leI 0 (inI (bl.getD i [])) && (!leI 32768 (inI (bl.getD i [])) && (!leI z (inI (bl.getD i []) * 16) && (decide ((sI (bl.getD i []) 1).length = 16) &&
    ((i == 0 || !leI (inI (bl.getD i [])) (inI (bl.getD (i - 1) []))) && (List.range 16).all (tlB z (inI (bl.getD i [])) (sI (bl.getD i []) 1))))))
def fileB (z : Int) (bl : List (List AV)) : Bool := leI 0 z && (leI z 32768 && (List.range bl.length).all (bkB z bl))
def CIs2 : List AV → Prop
  | [.agg [.int .i64 _, .sl 2 false bl]] => ShBlocks bl
  | _ => False
def gIs2 : List AV → AV
  | [.agg [.int _ z, .sl _ _ bl]] => .bool (fileB z bl)
  | _ => .junk
theorem leI_t {a b : Int} (h : a ≤ b) : leI a b = true := by rw [leI_dec]; exact decide_eq_true h
theorem leI_f {a b : Int} (h : b < a) : leI a b = false := by rw [leI_dec]; exact decide_eq_false (by omega)
theorem int_cell {d : List (List AV)} (hd : ∀ x ∈ d, isByte x) {j : Nat} (hj : j < d.length) : cellAt d j 0 = .int .u8 (inI (d.getD j [])) := by
  have hc : cellAt d j 0 = d[j].getD 0 .junk := by simp [cellAt, List.getD_eq_getElem?_getD, List.getElem?_eq_getElem hj]
  have hg : d.getD j [] = d[j] := by rw [List.getD_eq_getElem?_getD, List.getElem?_eq_getElem hj]; rfl
  have := byte_row (hd _ (List.getElem_mem hj))
  rw [hc, hg, this]
  rfl
theorem fn73 : SpecSound Try.prog 73 (.fn CIs2 gIs2) := dat_soundC te_ok nGE'_sound mixed isFun_73 (by
  rintro xs Φ ⟨hC, h⟩
  unfold CIs2 at hC
  split at hC
  · rename_i z bl
    have hb : ShBlocks bl := hC
    have hl := hb.2
    have h' : Φ (.bool (fileB z bl)) .none := h
    refine Eq.mpr (v73 ..) ?_
    refine ifB_both (fun z1 => ?_) (fun z1 => ifB_both (fun z2 => ?_) (fun z2 => ?_))
    · exact phi_b h' (by unfold fileB; rw [leI_f (lt_of_nleI z1)]; rfl)
    · exact phi_b h' (by unfold fileB; rw [leI_f (lt_of_nleI z2), Bool.false_and, Bool.and_false])
    have hz0 := le_of_nleI z1
    have hz1 := le_of_nleI z2
    have hfile : fileB z bl = (List.range bl.length).all (bkB z bl) := by unfold fileB; rw [leI_t hz0, leI_t hz1, Bool.true_and, Bool.true_and]
    rw [hfile] at h'
    refine loopC k73 1 (fun n st => ∃ i : Nat, i + n = bl.length ∧ st = t73 z bl i ∧ ∀ j < i, bkB z bl j = true) (by omega) ⟨bl.length, _, ⟨0, by omega, rfl, by simp⟩, reT_to k73 1 rfl (by omega) rfl⟩ ?_
    rintro n st ⟨i, hi, rfl, hinv⟩
    refine Eq.mpr (b73 ..) ?_
    refine ifB_both (fun c1 => ?_) (fun c1 => ?_)
    · have c1' := lt_of_nleI c1
      have hlt : i < bl.length := by omega
      have hi' : (0 : Int) ≤ i ∧ (i : Int) < (bl.length : Int) := by omega
      obtain ⟨a, d, hrow, q0, q1, hy, hdl⟩ := shBlock_at hb hlt
      have hget : bl.getD i [] = [.int .i64 a, .sl 1 false d] := by rw [List.getD_eq_getElem?_getD, List.getElem?_eq_getElem hlt]; exact hrow
      have hbk : bkB z bl i = (leI 0 a && (!leI 32768 a && (!leI z (a * 16) && (decide (d.length = 16) && ((i == 0 || !leI a (inI (bl.getD (i - 1) []))) && (List.range 16).all (tlB z a d)))))) := by
        unfold bkB; rw [hget]; rfl
      have hw : IntKind.i64.wrap ((i : Int) + 1) = ((i + 1 : Nat) : Int) := by rw [IntWalk.i64_in _ (by omega)]; omega
      have no : bkB z bl i = false → Φ (.bool false) .none := fun hh => phi_b h' (all_bad hlt hh)
      have step : bkB z bl i = true → roundC 0 (fun n st => ∃ i : Nat, i + n = bl.length ∧ st = t73 z bl i ∧ ∀ j < i, bkB z bl j = true) n (blkQ 0 (seqQ (wCodeC te nGE' 0 (bodyAt Try.f73 [false, false, false])) (endQ te Try.f73 (datFin Φ)))) .normal (t73 z bl ((i + 1 : Nat) : Int)) := fun hh => by
        refine rc_next (n - 1) (by omega) ⟨i + 1, by omega, rfl, fun j hj => ?_⟩
        rcases Nat.lt_or_ge j i with hji | hji
        · exact hinv j hji
        · have : j = i := by omega
          subst this
          exact hh
      refine ⟨hi', a, by rw [Int.toNat_natCast]; exact q0, d, by rw [Int.toNat_natCast]; exact q1, ?_⟩
      refine ifB_both (fun c2 => no (by rw [hbk, leI_f (lt_of_nleI c2)]; rfl)) (fun c2 => ?_)
      have a0 := le_of_nleI c2
      rw [leI_t a0, Bool.true_and] at hbk
      refine ifB_both (fun c3 => no (by rw [hbk, c3]; rfl)) (fun c3 => ?_)
      have a1 := lt_of_leI c3
      rw [c3, Bool.not_false, Bool.true_and] at hbk
      have hw2 : IntKind.i64.wrap (a * 16) = a * 16 := IntWalk.i64_in _ (by omega)
      rw [hw2]
      refine ifB_both (fun c4 => no (by rw [hbk, c4]; rfl)) (fun c4 => ?_)
      rw [c4, Bool.not_false, Bool.true_and] at hbk
      have main : (i == 0 || !leI a (inI (bl.getD (i - 1) []))) = true → d.length = 16 →
          ∀ (s : St), ReT 0 s (t73_1 z bl i (0 : Nat) a d) → wLoopC 0 (wCodeC te nGE' 0 (bodyAt Try.f73 [false, false, true, false, true, true, false, true, true, false, false, false, true, true])) s
            (blkQ 2 (blkQ 1 (seqQ (wCodeC te nGE' 0 (bodyAt Try.f73 [false, false, true, false, true, true, false, false])) (cutK ((endQ te Try.f73 (datFin Φ)) .ret) k73 1
              (roundC 0 (fun n st => ∃ i : Nat, i + n = bl.length ∧ st = t73 z bl i ∧ ∀ j < i, bkB z bl j = true) n (blkQ 0 (seqQ (wCodeC te nGE' 0 (bodyAt Try.f73 [false, false, false])) (endQ te Try.f73 (datFin Φ)))))))) ) := by
        intro hlast hd16 s hs
        rw [hlast, decide_eq_true hd16, Bool.true_and, Bool.true_and] at hbk
        refine loopQ ((endQ te Try.f73 (datFin Φ)) .ret) rfl k73_1 2 (fun m st => ∃ j : Nat, j + m = 16 ∧ st = t73_1 z bl i j a d ∧ ∀ l < j, tlB z a d l = true) (by omega) ⟨16, _, ⟨0, by omega, rfl, by simp⟩, hs⟩ ?_
        rintro m st ⟨j, hj, rfl, hjn⟩
        refine Eq.mpr (b73_1 ..) ?_
        rw [hw2]
        refine ifB_both (fun k1 => ?_) (fun k1 => ?_)
        · have k1' := lt_of_nleI k1
          have hj16 : j < 16 := by omega
          have hw3 : IntKind.i64.wrap (a * 16 + (j : Int)) = a * 16 + (j : Int) := IntWalk.i64_in _ (by omega)
          have hw4 : IntKind.i64.wrap ((j : Int) + 1) = ((j + 1 : Nat) : Int) := by rw [IntWalk.i64_in _ (by omega)]; omega
          have nx : tlB z a d j = true → roundC 0 (fun m st => ∃ j : Nat, j + m = 16 ∧ st = t73_1 z bl i j a d ∧ ∀ l < j, tlB z a d l = true) m
              (blkQ 2 (blkQ 1 (seqQ (wCodeC te nGE' 0 (bodyAt Try.f73 [false, false, true, false, true, true, false, false])) (cutK ((endQ te Try.f73 (datFin Φ)) .ret) k73 1
                (roundC 0 (fun n st => ∃ i : Nat, i + n = bl.length ∧ st = t73 z bl i ∧ ∀ j < i, bkB z bl j = true) n (blkQ 0 (seqQ (wCodeC te nGE' 0 (bodyAt Try.f73 [false, false, false])) (endQ te Try.f73 (datFin Φ)))))))))
              .normal (t73_1 z bl i ((j + 1 : Nat) : Int) a d) := fun hh => by
            refine rc_next (m - 1) (by omega) ⟨j + 1, by omega, rfl, fun l hl => ?_⟩
            rcases Nat.lt_or_ge l j with hlj | hlj
            · exact hjn l hlj
            · have : l = j := by omega
              subst this
              exact hh
          rw [hw3, hw4]
          refine ifB_both (fun k2 => ⟨by omega, _, by rw [Int.toNat_natCast]; exact int_cell hy (by omega), ifB_both (fun k3 => ?_) (fun k3 => ?_)⟩) (fun k2 => ?_)
          · have ht : tlB z a d j = false := by
              unfold tlB
              rw [k2, Bool.not_true, Bool.false_or]
              simpa using k3
            exact no (by rw [hbk]; exact all_bad hj16 ht)
          · refine nx ?_
            unfold tlB
            rw [k2, Bool.not_true, Bool.false_or]
            simpa using k3
          · refine nx ?_
            unfold tlB
            rw [k2]
            rfl
        · have k1' := le_of_nleI k1
          refine rc_exit2 ?_
          refine Eq.mpr (e73_1 ..) ?_
          rw [hw]
          refine step (by rw [hbk]; exact all_ok (fun l hl => hjn l (by omega)))
      refine ifB_both (fun c5 => no (by rw [hbk, decide_eq_false (by have := ne_of_bne c5; omega)]; rfl)) (fun c5 => ?_)
      have hd16 : d.length = 16 := by have := eq_of_nbne c5; omega
      refine ifB_both (fun c6 => ?_) (fun c6 => ?_)
      · have c6' := lt_of_nleI c6
        have hw5 : IntKind.i64.wrap ((i : Int) - 1) = ((i - 1 : Nat) : Int) := by rw [IntWalk.i64_in _ (by omega)]; omega
        have hlt1 : i - 1 < bl.length := by omega
        obtain ⟨a', d', hrow', q0', _⟩ := shBlock_at hb hlt1
        have hget' : inI (bl.getD (i - 1) []) = a' := by rw [List.getD_eq_getElem?_getD, List.getElem?_eq_getElem hlt1]; show inI bl[i - 1] = _; rw [hrow']; rfl
        rw [hw5]
        have hi0 : (i == 0) = false := by simp; omega
        refine ⟨by omega, a', by rw [Int.toNat_natCast]; exact q0', ifB_both (fun c7 => no ?_) (fun c7 => main ?_ hd16 _ (reT_to k73_1 2 rfl (by omega) rfl))⟩
        · rw [hbk, hget', c7, hi0, decide_eq_true hd16]; rfl
        · rw [hget', c7, hi0]; rfl
      · have c6' := le_of_nleI c6
        have hi0 : (i == 0) = true := by simp; omega
        exact main (by rw [hi0]; rfl) hd16 _ (reT_to k73_1 2 rfl (by omega) rfl)
    · have c1' := le_of_nleI c1
      refine rc_exit ?_
      refine Eq.mpr (e73 ..) ?_
      exact phi_b h' (all_ok (fun j hj => hinv j (by omega)))
  · cases hC)
end Go.Proofs.Ytdojencjbmahpaa
end
/-
  The reference's disks: sound, reached, Is.
-/
section
namespace Go.Proofs.Ytdojencjbmahpaa
open Go.Rf
set_option maxRecDepth 100000
set_option linter.unusedVariables false
set_option linter.unusedSimpArgs false
/-! sound -/
theorem isFun_45 : IsFun Try.prog 45 Try.f45 := ⟨Try.func45, by kernel_rfl, by kernel_rfl⟩
def GE45 : GE := fun f => match f with
  | 18 => some (.fn CGt3 gGt3)
  | 73 => some (.fn CIs2 gIs2)
  | 74 => some (.fn CNd1 gNd1)
  | _ => none
theorem GE45_sound : Sound Try.prog GE45 := by
  intro f sp h
  unfold GE45 at h
  split at h
  · cases h; exact fn18
  · cases h; exact fn73
  · cases h; exact fn74
  · cases h
theorem v45 (a b c : Int) (es : List (List AV)) (d0 d1 d2 d3 d4 : Int) (bl nm : List (List AV)) (t : ByteArray) (Φ : AV → Ent → Prop) : wFunC te GE45 Try.f45 [(dA a b c es), (.agg [(.int .i64 d0), (.int .i64 d1), (.int .i64 d2), (.int .i64 d3), (.int .i64 d4), (.sl 2 false bl), (.str t), (.sl 2 false nm)])] [] (datFin Φ) = (ifB (!leI 1 d1) (Φ (.bool false) .none) (ifB (!leI d1 3) (Φ (.bool false) .none) (ifB (!leI 0 d2) (Φ (.bool false) .none) (ifB (!leI d2 511) (Φ (.bool false) .none) (CIs2 [(fA d4 bl)] ∧ (ifB (!(fileB d4 bl)) (Φ (.bool false) .none) (ifB (d1 != 1) (ifB (!leI d4 0) (Φ (.bool false) .none) (ifB (!leI (bl.length : Int) 0) (Φ (.bool false) .none) (ifB (d1 != 2) (ifB (!leI (nm.length : Int) 0) (Φ (.bool false) .none) (ifB (!((d1 == 3) == (!(t.toList == (⟨#[]⟩ : ByteArray).toList)))) (Φ (.bool false) .none) (ifB (!leI (t.size : Int) 120) (Φ (.bool false) .none) (wLoopC 0 (wCodeC te GE45 0 (bodyAt Try.f45 [false, false, false, false, true, false, true, true])) ⟨((dA a b c es) :: ((.agg [(.int .i64 d0), (.int .i64 d1), (.int .i64 d2), (.int .i64 d3), (.int .i64 d4), (.sl 2 false bl), (.str t), (.sl 2 false nm)]) :: ((.ptr 0 0) :: ((.ptr 1 0) :: ((.bool false) :: ((.int .i64 0) :: (jk 2 ((.ptr 1 1) :: ((.int .i64 d1) :: ((.bool (!leI 1 d1)) :: ((.bool false) :: ((.ptr 1 1) :: ((.int .i64 d1) :: ((.bool (!leI d1 3)) :: ((.bool (!leI d1 3)) :: ((.bool false) :: ((.ptr 1 2) :: ((.int .i64 d2) :: ((.bool (!leI 0 d2)) :: ((.bool (!leI 0 d2)) :: ((.bool false) :: ((.ptr 1 2) :: ((.int .i64 d2) :: ((.bool (!leI d2 511)) :: ((.bool (!leI d2 511)) :: ((.bool false) :: ((.ptr 1 4) :: ((fA d4 bl) :: ((.bool (fileB d4 bl)) :: ((.bool (!(fileB d4 bl))) :: ((.bool (!(fileB d4 bl))) :: ((.ptr 1 1) :: ((.int .i64 d1) :: ((.bool (d1 != 1)) :: ((.bool true) :: ((.ptr 1 4) :: ((.ptr 1 4) :: ((.int .i64 d4) :: ((.bool (!leI d4 0)) :: ((.bool false) :: ((.ptr 1 4) :: ((.ptr 1 5) :: ((.sl 2 false bl) :: ((.int .i64 (bl.length : Int)) :: ((.bool (!leI (bl.length : Int) 0)) :: ((.bool (!leI (bl.length : Int) 0)) :: ((.bool (!leI (bl.length : Int) 0)) :: ((.bool false) :: ((.ptr 1 1) :: ((.int .i64 d1) :: ((.bool (d1 != 2)) :: ((.bool true) :: ((.ptr 1 7) :: ((.sl 2 false nm) :: ((.int .i64 (nm.length : Int)) :: ((.bool (!leI (nm.length : Int) 0)) :: ((.bool (!leI (nm.length : Int) 0)) :: ((.bool (!leI (nm.length : Int) 0)) :: ((.ptr 1 1) :: ((.int .i64 d1) :: ((.bool (d1 == 3)) :: ((.ptr 1 6) :: ((.str t) :: ((.bool (!(t.toList == (⟨#[]⟩ : ByteArray).toList))) :: ((.bool (!((d1 == 3) == (!(t.toList == (⟨#[]⟩ : ByteArray).toList))))) :: ((.bool false) :: ((.ptr 1 6) :: ((.str t) :: ((.int .i64 (t.size : Int)) :: ((.bool (!leI (t.size : Int) 120)) :: ((.bool (!leI (t.size : Int) 120)) :: (jk 50 [])))))))))))))))))))))))))))))))))))))))))))))))))))))))))))))))))))))))), [(dV a b c es), (.var [(.int .i64 d0), (.int .i64 d1), (.int .i64 d2), (.int .i64 d3), (.int .i64 d4), (.sl 2 false bl), (.str t), (.sl 2 false nm)])]⟩ (blkQ 0 (seqQ (wCodeC te GE45 0 (bodyAt Try.f45 [false, false, false, false, false])) (endQ te Try.f45 (datFin Φ)))))))) (ifB (!((d1 == 3) == (!(t.toList == (⟨#[]⟩ : ByteArray).toList)))) (Φ (.bool false) .none) (ifB (!leI (t.size : Int) 120) (Φ (.bool false) .none) (wLoopC 0 (wCodeC te GE45 0 (bodyAt Try.f45 [false, false, false, false, true, false, true, true])) ⟨((dA a b c es) :: ((.agg [(.int .i64 d0), (.int .i64 d1), (.int .i64 d2), (.int .i64 d3), (.int .i64 d4), (.sl 2 false bl), (.str t), (.sl 2 false nm)]) :: ((.ptr 0 0) :: ((.ptr 1 0) :: ((.bool false) :: ((.int .i64 0) :: (jk 2 ((.ptr 1 1) :: ((.int .i64 d1) :: ((.bool (!leI 1 d1)) :: ((.bool false) :: ((.ptr 1 1) :: ((.int .i64 d1) :: ((.bool (!leI d1 3)) :: ((.bool (!leI d1 3)) :: ((.bool false) :: ((.ptr 1 2) :: ((.int .i64 d2) :: ((.bool (!leI 0 d2)) :: ((.bool (!leI 0 d2)) :: ((.bool false) :: ((.ptr 1 2) :: ((.int .i64 d2) :: ((.bool (!leI d2 511)) :: ((.bool (!leI d2 511)) :: ((.bool false) :: ((.ptr 1 4) :: ((fA d4 bl) :: ((.bool (fileB d4 bl)) :: ((.bool (!(fileB d4 bl))) :: ((.bool (!(fileB d4 bl))) :: ((.ptr 1 1) :: ((.int .i64 d1) :: ((.bool (d1 != 1)) :: ((.bool true) :: ((.ptr 1 4) :: ((.ptr 1 4) :: ((.int .i64 d4) :: ((.bool (!leI d4 0)) :: ((.bool false) :: ((.ptr 1 4) :: ((.ptr 1 5) :: ((.sl 2 false bl) :: ((.int .i64 (bl.length : Int)) :: ((.bool (!leI (bl.length : Int) 0)) :: ((.bool (!leI (bl.length : Int) 0)) :: ((.bool (!leI (bl.length : Int) 0)) :: ((.bool false) :: ((.ptr 1 1) :: ((.int .i64 d1) :: ((.bool (d1 != 2)) :: ((.bool false) :: ((.tup []) :: ((.tup []) :: ((.tup []) :: ((.tup []) :: ((.bool false) :: ((.bool false) :: ((.ptr 1 1) :: ((.int .i64 d1) :: ((.bool (d1 == 3)) :: ((.ptr 1 6) :: ((.str t) :: ((.bool (!(t.toList == (⟨#[]⟩ : ByteArray).toList))) :: ((.bool (!((d1 == 3) == (!(t.toList == (⟨#[]⟩ : ByteArray).toList))))) :: ((.bool false) :: ((.ptr 1 6) :: ((.str t) :: ((.int .i64 (t.size : Int)) :: ((.bool (!leI (t.size : Int) 120)) :: ((.bool (!leI (t.size : Int) 120)) :: (jk 50 [])))))))))))))))))))))))))))))))))))))))))))))))))))))))))))))))))))))))), [(dV a b c es), (.var [(.int .i64 d0), (.int .i64 d1), (.int .i64 d2), (.int .i64 d3), (.int .i64 d4), (.sl 2 false bl), (.str t), (.sl 2 false nm)])]⟩ (blkQ 0 (seqQ (wCodeC te GE45 0 (bodyAt Try.f45 [false, false, false, false, false])) (endQ te Try.f45 (datFin Φ)))))))))) (ifB (d1 != 2) (ifB (!leI (nm.length : Int) 0) (Φ (.bool false) .none) (ifB (!((d1 == 3) == (!(t.toList == (⟨#[]⟩ : ByteArray).toList)))) (Φ (.bool false) .none) (ifB (!leI (t.size : Int) 120) (Φ (.bool false) .none) (wLoopC 0 (wCodeC te GE45 0 (bodyAt Try.f45 [false, false, false, false, true, false, true, true])) ⟨((dA a b c es) :: ((.agg [(.int .i64 d0), (.int .i64 d1), (.int .i64 d2), (.int .i64 d3), (.int .i64 d4), (.sl 2 false bl), (.str t), (.sl 2 false nm)]) :: ((.ptr 0 0) :: ((.ptr 1 0) :: ((.bool false) :: ((.int .i64 0) :: (jk 2 ((.ptr 1 1) :: ((.int .i64 d1) :: ((.bool (!leI 1 d1)) :: ((.bool false) :: ((.ptr 1 1) :: ((.int .i64 d1) :: ((.bool (!leI d1 3)) :: ((.bool (!leI d1 3)) :: ((.bool false) :: ((.ptr 1 2) :: ((.int .i64 d2) :: ((.bool (!leI 0 d2)) :: ((.bool (!leI 0 d2)) :: ((.bool false) :: ((.ptr 1 2) :: ((.int .i64 d2) :: ((.bool (!leI d2 511)) :: ((.bool (!leI d2 511)) :: ((.bool false) :: ((.ptr 1 4) :: ((fA d4 bl) :: ((.bool (fileB d4 bl)) :: ((.bool (!(fileB d4 bl))) :: ((.bool (!(fileB d4 bl))) :: ((.ptr 1 1) :: ((.int .i64 d1) :: ((.bool (d1 != 1)) :: ((.bool false) :: ((.tup []) :: ((.tup []) :: ((.tup []) :: ((.tup []) :: ((.tup []) :: ((.tup []) :: ((.tup []) :: ((.tup []) :: ((.tup []) :: ((.tup []) :: ((.tup []) :: ((.bool false) :: ((.bool false) :: ((.ptr 1 1) :: ((.int .i64 d1) :: ((.bool (d1 != 2)) :: ((.bool true) :: ((.ptr 1 7) :: ((.sl 2 false nm) :: ((.int .i64 (nm.length : Int)) :: ((.bool (!leI (nm.length : Int) 0)) :: ((.bool (!leI (nm.length : Int) 0)) :: ((.bool (!leI (nm.length : Int) 0)) :: ((.ptr 1 1) :: ((.int .i64 d1) :: ((.bool (d1 == 3)) :: ((.ptr 1 6) :: ((.str t) :: ((.bool (!(t.toList == (⟨#[]⟩ : ByteArray).toList))) :: ((.bool (!((d1 == 3) == (!(t.toList == (⟨#[]⟩ : ByteArray).toList))))) :: ((.bool false) :: ((.ptr 1 6) :: ((.str t) :: ((.int .i64 (t.size : Int)) :: ((.bool (!leI (t.size : Int) 120)) :: ((.bool (!leI (t.size : Int) 120)) :: (jk 50 [])))))))))))))))))))))))))))))))))))))))))))))))))))))))))))))))))))))))), [(dV a b c es), (.var [(.int .i64 d0), (.int .i64 d1), (.int .i64 d2), (.int .i64 d3), (.int .i64 d4), (.sl 2 false bl), (.str t), (.sl 2 false nm)])]⟩ (blkQ 0 (seqQ (wCodeC te GE45 0 (bodyAt Try.f45 [false, false, false, false, false])) (endQ te Try.f45 (datFin Φ)))))))) (ifB (!((d1 == 3) == (!(t.toList == (⟨#[]⟩ : ByteArray).toList)))) (Φ (.bool false) .none) (ifB (!leI (t.size : Int) 120) (Φ (.bool false) .none) (wLoopC 0 (wCodeC te GE45 0 (bodyAt Try.f45 [false, false, false, false, true, false, true, true])) ⟨((dA a b c es) :: ((.agg [(.int .i64 d0), (.int .i64 d1), (.int .i64 d2), (.int .i64 d3), (.int .i64 d4), (.sl 2 false bl), (.str t), (.sl 2 false nm)]) :: ((.ptr 0 0) :: ((.ptr 1 0) :: ((.bool false) :: ((.int .i64 0) :: (jk 2 ((.ptr 1 1) :: ((.int .i64 d1) :: ((.bool (!leI 1 d1)) :: ((.bool false) :: ((.ptr 1 1) :: ((.int .i64 d1) :: ((.bool (!leI d1 3)) :: ((.bool (!leI d1 3)) :: ((.bool false) :: ((.ptr 1 2) :: ((.int .i64 d2) :: ((.bool (!leI 0 d2)) :: ((.bool (!leI 0 d2)) :: ((.bool false) :: ((.ptr 1 2) :: ((.int .i64 d2) :: ((.bool (!leI d2 511)) :: ((.bool (!leI d2 511)) :: ((.bool false) :: ((.ptr 1 4) :: ((fA d4 bl) :: ((.bool (fileB d4 bl)) :: ((.bool (!(fileB d4 bl))) :: ((.bool (!(fileB d4 bl))) :: ((.ptr 1 1) :: ((.int .i64 d1) :: ((.bool (d1 != 1)) :: ((.bool false) :: ((.tup []) :: ((.tup []) :: ((.tup []) :: ((.tup []) :: ((.tup []) :: ((.tup []) :: ((.tup []) :: ((.tup []) :: ((.tup []) :: ((.tup []) :: ((.tup []) :: ((.bool false) :: ((.bool false) :: ((.ptr 1 1) :: ((.int .i64 d1) :: ((.bool (d1 != 2)) :: ((.bool false) :: ((.tup []) :: ((.tup []) :: ((.tup []) :: ((.tup []) :: ((.bool false) :: ((.bool false) :: ((.ptr 1 1) :: ((.int .i64 d1) :: ((.bool (d1 == 3)) :: ((.ptr 1 6) :: ((.str t) :: ((.bool (!(t.toList == (⟨#[]⟩ : ByteArray).toList))) :: ((.bool (!((d1 == 3) == (!(t.toList == (⟨#[]⟩ : ByteArray).toList))))) :: ((.bool false) :: ((.ptr 1 6) :: ((.str t) :: ((.int .i64 (t.size : Int)) :: ((.bool (!leI (t.size : Int) 120)) :: ((.bool (!leI (t.size : Int) 120)) :: (jk 50 [])))))))))))))))))))))))))))))))))))))))))))))))))))))))))))))))))))))))), [(dV a b c es), (.var [(.int .i64 d0), (.int .i64 d1), (.int .i64 d2), (.int .i64 d3), (.int .i64 d4), (.sl 2 false bl), (.str t), (.sl 2 false nm)])]⟩ (blkQ 0 (seqQ (wCodeC te GE45 0 (bodyAt Try.f45 [false, false, false, false, false])) (endQ te Try.f45 (datFin Φ))))))))))))))) := by kernel_rfl
def t45 (a b c : Int) (es : List (List AV)) (d0 d1 d2 d3 d4 : Int) (bl nm : List (List AV)) (t : ByteArray) (i : Int) : St := ⟨(jk 2 ((.ptr 0 0) :: ((.ptr 1 0) :: (jk 1 ((.int .i64 i) :: (jk 116 [])))))), [(dV a b c es), (.var [(.int .i64 d0), (.int .i64 d1), (.int .i64 d2), (.int .i64 d3), (.int .i64 d4), (.sl 2 false bl), (.str t), (.sl 2 false nm)])]⟩
def k45 : List Bool := [false, false, true, true, false, true, false, false, false, false, false, false, false, false, false, false, false, false, false, false, false, false, false, false, false, false, false, false, false, false, false, false, false, false, false, false, false, false, false, false, false, false, false, false, false, false, false, false, false, false, false, false, false, false, false, false, false, false, false, false, false, false, false, false, false, false, false, false, false, false, false, false, false, false, false, false, false, false, false, false, false, false, false, false, false, false, false, false, false, false, false, false, false, false, false, false, false, false, false, false, false, false, false, false, false, false, false, false, false, false, false, false, false, false, false, false, false, false, false, false, false, false]
theorem b45 (a b c : Int) (es : List (List AV)) (d0 d1 d2 d3 d4 : Int) (bl nm : List (List AV)) (t : ByteArray) (i : Int) (K : KontX) (Φ : AV → Ent → Prop) : wCodeC te GE45 0 (bodyAt Try.f45 [false, false, false, false, true, false, true, true]) (t45 a b c es d0 d1 d2 d3 d4 bl nm t i) (cutK ((endQ te Try.f45 (datFin Φ)) .ret) k45 2 K) = (ifB (!leI (nm.length : Int) i) ((0 ≤ i ∧ i < (nm.length : Int)) ∧ (∃ n60, cellAt nm i.toNat 1 = (.int .i64 n60) ∧ (CGt3 [(dA a b c es), (.int .i64 n60)] ∧ (ifB (!(fhI es n60)) (Φ (.bool false) .none) ((0 ≤ i ∧ i < (nm.length : Int)) ∧ (∃ s61, cellAt nm i.toNat 0 = (.str s61) ∧ (CNd1 [(.str s61)] ∧ (ifB (!(nmdB s61)) (Φ (.bool false) .none) (ifB (!leI i 0) ((0 ≤ i ∧ i < (nm.length : Int)) ∧ (∃ s62, cellAt nm i.toNat 0 = (.str s62) ∧ ((0 ≤ (IntKind.i64.wrap (i - 1)) ∧ (IntKind.i64.wrap (i - 1)) < (nm.length : Int)) ∧ (∃ s63, cellAt nm (IntKind.i64.wrap (i - 1)).toNat 0 = (.str s63) ∧ (ifB (Op.bytesLess s62.toList s63.toList || s62.toList == s63.toList) (Φ (.bool false) .none) (K .normal (t45 a b c es d0 d1 d2 d3 d4 bl nm t (IntKind.i64.wrap (i + 1))))))))) (K .normal (t45 a b c es d0 d1 d2 d3 d4 bl nm t (IntKind.i64.wrap (i + 1))))))))))))) (K (.exit 0) (t45 a b c es d0 d1 d2 d3 d4 bl nm t i))) := by kernel_rfl
theorem e45 (a b c : Int) (es : List (List AV)) (d0 d1 d2 d3 d4 : Int) (bl nm : List (List AV)) (t : ByteArray) (i : Int) (Φ : AV → Ent → Prop) : wCodeC te GE45 0 (bodyAt Try.f45 [false, false, false, false, false]) (t45 a b c es d0 d1 d2 d3 d4 bl nm t i) (endQ te Try.f45 (datFin Φ)) = (Φ (.bool true) .none) := by kernel_rfl
def leS (a b : ByteArray) : Bool := Op.bytesLess a.toList b.toList || a.toList == b.toList
def nmB (es nm : List (List AV)) (i : Nat) : Bool := fhI es (inN (nm.getD i [])) && (nmdB (txN (nm.getD i [])) && (i == 0 || !leS (txN (nm.getD i [])) (txN (nm.getD (i - 1) []))))
def kdB (d1 d4 : Int) (bl nm : List (List AV)) : Bool := !((d1 != 1 && (!leI d4 0 || !leI (bl.length : Int) 0)) || (d1 != 2 && !leI (nm.length : Int) 0))
def sndP (d1 d2 d4 : Int) (bl nm : List (List AV)) (t : ByteArray) : Bool :=
  leI 1 d1 && (leI d1 3 && (leI 0 d2 && (leI d2 511 && (fileB d4 bl && (kdB d1 d4 bl nm && (((d1 == 3) == (!(t.toList == (⟨#[]⟩ : ByteArray).toList))) && leI (t.size : Int) 120))))))
def sndB (es : List (List AV)) (r : List AV) : Bool := sndP (nI r 1) (nI r 2) (nI r 4) (sI r 5) (sI r 7) (bI r) && (List.range (sI r 7).length).all (nmB es (sI r 7))
def CSd : List AV → Prop
  | [.agg [.int .i64 _, .int .i64 _, .int .i64 _, .sl 8 false es], .agg r] => ShNodes es ∧ ShNode r
  | _ => False
def gSd : List AV → AV
  | [.agg [_, _, _, .sl _ _ es], .agg r] => .bool (sndB es r)
  | _ => .junk
theorem str_cell {nm : List (List AV)} (h : ShNames nm) {i : Nat} (hi : i < nm.length) : cellAt nm i 0 = .str (txN (nm.getD i [])) ∧ cellAt nm i 1 = .int .i64 (inN (nm.getD i [])) ∧ (txN (nm.getD i [])).size ≤ 1000000000 := by
  obtain ⟨s, x, hrow, q0, q1, hs⟩ := shName_at h hi
  have hg : nm.getD i [] = [.str s, .int .i64 x] := by rw [List.getD_eq_getElem?_getD, List.getElem?_eq_getElem hi]; exact hrow
  rw [q0, q1, hg]
  exact ⟨rfl, rfl, hs⟩
theorem fn45 : SpecSound Try.prog 45 (.fn CSd gSd) := dat_soundC te_ok GE45_sound mixed isFun_45 (by
  rintro xs Φ ⟨hC, h⟩
  unfold CSd at hC
  split at hC
  · rename_i a b c es r
    obtain ⟨hn, hr⟩ := hC
    obtain ⟨d0, d1, d2, d3, d4, bl, t, nm, rfl, hbl, hnm, ht⟩ := hr
    have hl := hnm.2
    have h' : Φ (.bool (sndP d1 d2 d4 bl nm t && (List.range nm.length).all (nmB es nm))) .none := h
    have main : sndP d1 d2 d4 bl nm t = true → ∀ s, ReT 0 s (t45 a b c es d0 d1 d2 d3 d4 bl nm t (0 : Nat)) →
        wLoopC 0 (wCodeC te GE45 0 (bodyAt Try.f45 [false, false, false, false, true, false, true, true])) s (blkQ 0 (seqQ (wCodeC te GE45 0 (bodyAt Try.f45 [false, false, false, false, false])) (endQ te Try.f45 (datFin Φ)))) := by
      intro hP s hs
      rw [hP, Bool.true_and] at h'
      refine loopC k45 2 (fun n st => ∃ i : Nat, i + n = nm.length ∧ st = t45 a b c es d0 d1 d2 d3 d4 bl nm t i ∧ ∀ j < i, nmB es nm j = true) (by omega) ⟨nm.length, _, ⟨0, by omega, rfl, by simp⟩, hs⟩ ?_
      rintro n st ⟨i, hi, rfl, hinv⟩
      refine Eq.mpr (b45 ..) ?_
      refine ifB_both (fun c1 => ?_) (fun c1 => ?_)
      · have c1' := lt_of_nleI c1
        have hlt : i < nm.length := by omega
        have hi' : (0 : Int) ≤ i ∧ (i : Int) < (nm.length : Int) := by omega
        have hw : IntKind.i64.wrap ((i : Int) + 1) = ((i + 1 : Nat) : Int) := by rw [IntWalk.i64_in _ (by omega)]; omega
        obtain ⟨q0, q1, hs1⟩ := str_cell hnm hlt
        have no : nmB es nm i = false → Φ (.bool false) .none := fun hh => phi_b h' (all_bad hlt hh)
        have nx : nmB es nm i = true → roundC 0 (fun n st => ∃ i : Nat, i + n = nm.length ∧ st = t45 a b c es d0 d1 d2 d3 d4 bl nm t i ∧ ∀ j < i, nmB es nm j = true) n (blkQ 0 (seqQ (wCodeC te GE45 0 (bodyAt Try.f45 [false, false, false, false, false])) (endQ te Try.f45 (datFin Φ)))) .normal (t45 a b c es d0 d1 d2 d3 d4 bl nm t ((i + 1 : Nat) : Int)) := fun hh => by
          refine rc_next (n - 1) (by omega) ⟨i + 1, by omega, rfl, fun j hj => ?_⟩
          rcases Nat.lt_or_ge j i with hji | hji
          · exact hinv j hji
          · have : j = i := by omega
            subst this
            exact hh
        rw [hw]
        refine ⟨hi', _, by rw [Int.toNat_natCast]; exact q1, hn, ifB_both (fun k1 => no ?_) (fun k1 => ⟨hi', _, by rw [Int.toNat_natCast]; exact q0, hs1, ifB_both (fun k2 => no ?_) (fun k2 => ifB_both (fun k3 => ?_) (fun k3 => nx ?_))⟩)⟩
        · unfold nmB
          rw [show fhI es (inN (nm.getD i [])) = false by simpa using k1]
          rfl
        · unfold nmB
          rw [show nmdB (txN (nm.getD i [])) = false by simpa using k2, Bool.false_and, Bool.and_false]
        · have k3' := lt_of_nleI k3
          have hw5 : IntKind.i64.wrap ((i : Int) - 1) = ((i - 1 : Nat) : Int) := by rw [IntWalk.i64_in _ (by omega)]; omega
          obtain ⟨p0, _, _⟩ := str_cell hnm (show i - 1 < nm.length by omega)
          have hi0 : (i == 0) = false := by simp; omega
          rw [hw5]
          have hB : nmB es nm i = !leS (txN (nm.getD i [])) (txN (nm.getD (i - 1) [])) := by
            unfold nmB
            rw [show fhI es (inN (nm.getD i [])) = true by simpa using k1, show nmdB (txN (nm.getD i [])) = true by simpa using k2, hi0]
            rfl
          refine ⟨hi', _, by rw [Int.toNat_natCast]; exact q0, by omega, _, by rw [Int.toNat_natCast]; exact p0, ifB_both (fun k4 => no ?_) (fun k4 => nx ?_)⟩
          · rw [hB]
            unfold leS
            rw [k4]
            rfl
          · rw [hB]
            unfold leS
            rw [k4]
            rfl
        · have k3' := le_of_nleI k3
          have hi0 : (i == 0) = true := by simp; omega
          unfold nmB
          rw [show fhI es (inN (nm.getD i [])) = true by simpa using k1, show nmdB (txN (nm.getD i [])) = true by simpa using k2, hi0]
          rfl
      · have c1' := le_of_nleI c1
        refine rc_exit ?_
        refine Eq.mpr (e45 ..) ?_
        exact phi_b h' (all_ok (fun j hj => hinv j (by omega)))
    have no : sndP d1 d2 d4 bl nm t = false → Φ (.bool false) .none := fun hh => phi_b h' (by rw [hh]; rfl)
    refine Eq.mpr (v45 ..) ?_
    refine ifB_both (fun x1 => no (by unfold sndP; simp_all)) (fun x1 => ?_)
    refine ifB_both (fun x2 => no (by unfold sndP; simp_all)) (fun x2 => ?_)
    refine ifB_both (fun x3 => no (by unfold sndP; simp_all)) (fun x3 => ?_)
    refine ifB_both (fun x4 => no (by unfold sndP; simp_all)) (fun x4 => ?_)
    refine ⟨hbl, ifB_both (fun x5 => no (by unfold sndP; simp_all)) (fun x5 => ?_)⟩
    have hP : sndP d1 d2 d4 bl nm t = (kdB d1 d4 bl nm && (((d1 == 3) == (!(t.toList == (⟨#[]⟩ : ByteArray).toList))) && leI (t.size : Int) 120)) := by
      unfold sndP
      simp_all
    have fin : kdB d1 d4 bl nm = true → ∀ s, ReT 0 s (t45 a b c es d0 d1 d2 d3 d4 bl nm t (0 : Nat)) →
        ifB (!((d1 == 3) == (!(t.toList == (⟨#[]⟩ : ByteArray).toList)))) (Φ (.bool false) .none) (ifB (!leI (t.size : Int) 120) (Φ (.bool false) .none)
          (wLoopC 0 (wCodeC te GE45 0 (bodyAt Try.f45 [false, false, false, false, true, false, true, true])) s (blkQ 0 (seqQ (wCodeC te GE45 0 (bodyAt Try.f45 [false, false, false, false, false])) (endQ te Try.f45 (datFin Φ)))))) := fun hk s hs => by
      rw [hk, Bool.true_and] at hP
      refine ifB_both (fun x6 => no ?_) (fun x6 => ifB_both (fun x7 => no ?_) (fun x7 => main ?_ s hs))
      · rw [hP, show ((d1 == 3) == (!(t.toList == (⟨#[]⟩ : ByteArray).toList))) = false by simpa using x6]; rfl
      · rw [hP, show leI (t.size : Int) 120 = false by simpa using x7, Bool.and_false]
      · rw [hP, show ((d1 == 3) == (!(t.toList == (⟨#[]⟩ : ByteArray).toList))) = true by simpa using x6, show leI (t.size : Int) 120 = true by simpa using x7]; rfl
    have nok : kdB d1 d4 bl nm = false → Φ (.bool false) .none := fun hk => no (by rw [hP, hk]; rfl)
    have to : ∀ (T : List AV) (G : List Ent), cutOK k45 2 ⟨T, G⟩ = true → cut k45 2 ⟨T, G⟩ = t45 a b c es d0 d1 d2 d3 d4 bl nm t (0 : Nat) → ReT 0 ⟨T, G⟩ (t45 a b c es d0 d1 d2 d3 d4 bl nm t (0 : Nat)) := fun T G h1 h2 => reT_to k45 2 h1 (by omega) h2
    refine ifB_both (fun y1 => ifB_both (fun y2 => nok ?_) (fun y2 => ifB_both (fun y3 => nok ?_) (fun y3 => ifB_both (fun y4 => ifB_both (fun y5 => nok ?_) (fun y5 => fin ?_ _ (to _ _ rfl rfl))) (fun y4 => fin ?_ _ (to _ _ rfl rfl)))))
      (fun y1 => ifB_both (fun y4 => ifB_both (fun y5 => nok ?_) (fun y5 => fin ?_ _ (to _ _ rfl rfl))) (fun y4 => fin ?_ _ (to _ _ rfl rfl)))
    all_goals (unfold kdB; simp_all)
  · cases hC)
/-! reached -/
def oneL (k : Int) : List (List AV) := [[.int .i64 k]]
def reGo (rec : Int → List (List AV) → List (List AV) × Bool) : List (List AV) → List (List AV) → List (List AV) × Bool
  | [], l => (l, true)
  | e :: nm, l => if hasL l (inN e) = true then reGo rec nm l else
      match rec (inN e) (l ++ oneL (inN e)) with
      | (l', true) => reGo rec nm l'
      | (l', false) => (l', false)
def reN (es : List (List AV)) : Nat → Int → List (List AV) → List (List AV) × Bool
  | 0, k, l => (l, (sI (frI es k) 7).isEmpty)
  | n + 1, k, l => reGo (reN es n) (sI (frI es k) 7) l
def IntRows (l : List (List AV)) : Prop := ∀ e ∈ l, ∃ n, e = [.int .i64 n]
theorem intRows_add {l : List (List AV)} (h : IntRows l) (k : Int) : IntRows (l ++ oneL k) := by
  intro e he
  rcases List.mem_append.1 he with he | he
  · exact h e he
  · simp [oneL] at he
    exact ⟨k, he⟩
theorem reGo_mono {rec : Int → List (List AV) → List (List AV) × Bool} (hrec : ∀ k l, l.length ≤ (rec k l).1.length ∧ (IntRows l → IntRows (rec k l).1)) : ∀ (nm l : List (List AV)), l.length ≤ (reGo rec nm l).1.length ∧ (IntRows l → IntRows (reGo rec nm l).1)
  | [], l => ⟨Nat.le_refl _, id⟩
  | e :: nm, l => by
    simp only [reGo]
    split
    · exact reGo_mono hrec nm l
    · have h1 := hrec (inN e) (l ++ oneL (inN e))
      generalize rec (inN e) (l ++ oneL (inN e)) = q at *
      obtain ⟨l', ok⟩ := q
      have hl : (l ++ oneL (inN e)).length = l.length + 1 := by simp [oneL]
      cases ok with
      | true =>
        obtain ⟨i1, i2⟩ := reGo_mono hrec nm l'
        exact ⟨by have := h1.1; simp only at this ⊢; omega, fun h => i2 (h1.2 (intRows_add h _))⟩
      | false => exact ⟨by have := h1.1; simp only at this ⊢; omega, fun h => h1.2 (intRows_add h _)⟩
theorem reN_mono (es : List (List AV)) : ∀ (n : Nat) (k : Int) (l : List (List AV)), l.length ≤ (reN es n k l).1.length ∧ (IntRows l → IntRows (reN es n k l).1)
  | 0, k, l => ⟨Nat.le_refl _, id⟩
  | n + 1, k, l => reGo_mono (reN_mono es n) _ l
def reR (es : List (List AV)) (k left : Int) (l : List (List AV)) : List (List AV) × Bool := reN es left.toNat k l
def CRe (m : Nat) : List AV → Prop
  | [.agg [.int .i64 _, .int .i64 _, .int .i64 _, .sl 8 false es], .int .i64 k, .int .i64 left, .sl 1 false l] => ShNodes es ∧ 0 ≤ left ∧ left < (m : Int) ∧ left ≤ 1000000 ∧ IntRows l ∧ (reR es k left l).1.length ≤ 1000000000
  | _ => False
def gRe : List AV → AV
  | [.agg [_, _, _, .sl _ _ es], .int _ k, .int _ left, .sl _ _ l] => .tup [.sl 1 false (reR es k left l).1, .bool (reR es k left l).2]
  | _ => .junk
def GEr (m : Nat) : GE := fun f => match f with
  | 18 => some (.fn CGt3 gGt3)
  | 75 => some (.fn CHs gHs)
  | 47 => some (.fz (CRe m) gRe)
  | _ => none
theorem GEr_sound {m : Nat} (h : SpecSound Try.prog 47 (.fz (CRe m) gRe)) : Sound Try.prog (GEr m) := by
  intro f sp hf
  unfold GEr at hf
  split at hf
  · cases hf; exact fn18
  · cases hf; exact fn75
  · cases hf; exact h
  · cases hf
theorem isFun_47 : IsFun Try.prog 47 Try.f47 := ⟨Try.func47, by kernel_rfl, by kernel_rfl⟩
theorem v47 (m : Nat) (a b c : Int) (es : List (List AV)) (k left : Int) (l : List (List AV)) (Φ : AV → Ent → Prop) : wFunC te (GEr m) Try.f47 [(dA a b c es), (.int .i64 k), (.int .i64 left), (.sl 1 false l)] [] (datFin Φ) = (CGt3 [(dA a b c es), (.int .i64 k)] ∧ (ifB (left == 0) (ifB (!leI ((sI (frI es k) 7).length : Int) 0) (Φ (.tup [(.sl 1 false l), (.bool false)]) .none) (wLoopC 0 (wCodeC te (GEr m) 0 (bodyAt Try.f47 [false, false, false, true, false, true, true])) ⟨((dA a b c es) :: ((.int .i64 k) :: ((.int .i64 left) :: ((.sl 1 false l) :: ((.ptr 0 0) :: (jk 3 ((.sl 0 true ([] : List (List AV))) :: ((.bool false) :: ((.ptr 1 0) :: ((.bool (fhI es k)) :: ((.int .i64 0) :: (jk 2 ((.tup [(nA (frI es k)), (.bool (fhI es k))]) :: ((dA a b c es) :: ((.int .i64 k) :: ((.tup [(nA (frI es k)), (.bool (fhI es k))]) :: ((nA (frI es k)) :: ((.bool (fhI es k)) :: ((.int .i64 left) :: ((.bool (left == 0)) :: ((.bool true) :: ((.ptr 1 7) :: ((.sl 2 false (sI (frI es k) 7)) :: ((.int .i64 ((sI (frI es k) 7).length : Int)) :: ((.bool (!leI ((sI (frI es k) 7).length : Int) 0)) :: ((.bool (!leI ((sI (frI es k) 7).length : Int) 0)) :: (jk 35 []))))))))))))))))))))))))))), [(dV a b c es), (.var [(.int .i64 (nI (frI es k) 0)), (.int .i64 (nI (frI es k) 1)), (.int .i64 (nI (frI es k) 2)), (.int .i64 (nI (frI es k) 3)), (.int .i64 (nI (frI es k) 4)), (.sl 2 false (sI (frI es k) 5)), (.str (bI (frI es k))), (.sl 2 false (sI (frI es k) 7))])]⟩ (blkQ 0 (seqQ (wCodeC te (GEr m) 0 (bodyAt Try.f47 [false, false, false, false])) (endQ te Try.f47 (datFin Φ)))))) (wLoopC 0 (wCodeC te (GEr m) 0 (bodyAt Try.f47 [false, false, false, true, false, true, true])) ⟨((dA a b c es) :: ((.int .i64 k) :: ((.int .i64 left) :: ((.sl 1 false l) :: ((.ptr 0 0) :: (jk 3 ((.sl 0 true ([] : List (List AV))) :: ((.bool false) :: ((.ptr 1 0) :: ((.bool (fhI es k)) :: ((.int .i64 0) :: (jk 2 ((.tup [(nA (frI es k)), (.bool (fhI es k))]) :: ((dA a b c es) :: ((.int .i64 k) :: ((.tup [(nA (frI es k)), (.bool (fhI es k))]) :: ((nA (frI es k)) :: ((.bool (fhI es k)) :: ((.int .i64 left) :: ((.bool (left == 0)) :: ((.bool false) :: ((.tup []) :: ((.tup []) :: ((.tup []) :: ((.tup []) :: ((.bool false) :: (jk 35 []))))))))))))))))))))))))))), [(dV a b c es), (.var [(.int .i64 (nI (frI es k) 0)), (.int .i64 (nI (frI es k) 1)), (.int .i64 (nI (frI es k) 2)), (.int .i64 (nI (frI es k) 3)), (.int .i64 (nI (frI es k) 4)), (.sl 2 false (sI (frI es k) 5)), (.str (bI (frI es k))), (.sl 2 false (sI (frI es k) 7))])]⟩ (blkQ 0 (seqQ (wCodeC te (GEr m) 0 (bodyAt Try.f47 [false, false, false, false])) (endQ te Try.f47 (datFin Φ))))))) := by kernel_rfl
def t47 (m : Nat) (a b c : Int) (es : List (List AV)) (k left i : Int) (l : List (List AV)) : St := ⟨(jk 2 ((.int .i64 left) :: ((.sl 1 false l) :: ((.ptr 0 0) :: (jk 5 ((.ptr 1 0) :: (jk 1 ((.int .i64 i) :: (jk 51 []))))))))), [(dV a b c es), (.var [(.int .i64 (nI (frI es k) 0)), (.int .i64 (nI (frI es k) 1)), (.int .i64 (nI (frI es k) 2)), (.int .i64 (nI (frI es k) 3)), (.int .i64 (nI (frI es k) 4)), (.sl 2 false (sI (frI es k) 5)), (.str (bI (frI es k))), (.sl 2 false (sI (frI es k) 7))])]⟩
def k47 : List Bool := [false, false, true, true, true, false, false, false, false, false, true, false, true, false, false, false, false, false, false, false, false, false, false, false, false, false, false, false, false, false, false, false, false, false, false, false, false, false, false, false, false, false, false, false, false, false, false, false, false, false, false, false, false, false, false, false, false, false, false, false, false, false, false, false]
theorem b47 (m : Nat) (a b c : Int) (es : List (List AV)) (k left i : Int) (l : List (List AV)) (K : KontX) (Φ : AV → Ent → Prop) : wCodeC te (GEr m) 0 (bodyAt Try.f47 [false, false, false, true, false, true, true]) (t47 m a b c es k left i l) (cutK ((endQ te Try.f47 (datFin Φ)) .ret) k47 2 K) = (ifB (!leI ((sI (frI es k) 7).length : Int) i) ((0 ≤ i ∧ i < ((sI (frI es k) 7).length : Int)) ∧ (∃ n64, cellAt (sI (frI es k) 7) i.toNat 1 = (.int .i64 n64) ∧ (CHs [(.sl 1 false l), (.int .i64 n64)] ∧ (ifB (hasL l n64) (K .normal (t47 m a b c es k left (IntKind.i64.wrap (i + 1)) l)) (((fits 1 1 l = true ∧ fits 1 1 ([] : List (List AV)) = true) ∧ (([] : List (List AV)) = [] ∨ l ≠ []) ∧ room (0 + l.length) 8) ∧ ((fits 1 1 [[(.int .i64 n64)]] = true ∧ 1 = 1 ∧ (0 + l.length) = (([] : List (List AV)) ++ l).length ∧ room ((([] : List (List AV)) ++ l).length + 1) 8) ∧ (((1 + 1) = (1 + 1) ∧ ((([] : List (List AV)) ++ l).length + 1) = ((([] : List (List AV)) ++ l) ++ ([[(.int .i64 n64)]] : List (List AV))).length) ∧ (CRe m [(dA a b c es), (.int .i64 n64), (.int .i64 (IntKind.i64.wrap (left - 1))), (.sl 1 false ((([] : List (List AV)) ++ l) ++ ([[(.int .i64 n64)]] : List (List AV))))] ∧ (ifB (!(reR es n64 (IntKind.i64.wrap (left - 1)) ((([] : List (List AV)) ++ l) ++ ([[(.int .i64 n64)]] : List (List AV)))).2) (Φ (.tup [(.sl 1 false (reR es n64 (IntKind.i64.wrap (left - 1)) ((([] : List (List AV)) ++ l) ++ ([[(.int .i64 n64)]] : List (List AV)))).1), (.bool false)]) .none) (K .normal (t47 m a b c es k left (IntKind.i64.wrap (i + 1)) ((reR es n64 (IntKind.i64.wrap (left - 1)) ((([] : List (List AV)) ++ l) ++ ([[(.int .i64 n64)]] : List (List AV)))).1)))))))))))) (K (.exit 0) (t47 m a b c es k left i l))) := by kernel_rfl
theorem e47 (m : Nat) (a b c : Int) (es : List (List AV)) (k left i : Int) (l : List (List AV)) (Φ : AV → Ent → Prop) : wCodeC te (GEr m) 0 (bodyAt Try.f47 [false, false, false, false]) (t47 m a b c es k left i l) (endQ te Try.f47 (datFin Φ)) = (Φ (.tup [(.sl 1 false l), (.bool true)]) .none) := by kernel_rfl
theorem re_eq {es : List (List AV)} {k left : Int} {l : List (List AV)} (h0 : 0 ≤ left) (h : left = 0 → sI (frI es k) 7 = []) : reR es k left l = reGo (reN es (left - 1).toNat) (sI (frI es k) 7) l := by
  unfold reR
  rcases Nat.eq_zero_or_pos left.toNat with h1 | h1
  · have : left = 0 := by omega
    rw [h1, h this]
    show (l, (sI (frI es k) 7).isEmpty) = (l, true)
    rw [h this]
    rfl
  · obtain ⟨n, hn⟩ : ∃ n, left.toNat = n + 1 := ⟨left.toNat - 1, by omega⟩
    have h2 : (left - 1).toNat = n := by omega
    rw [hn, h2]
    rfl
theorem frI_sh {es : List (List AV)} (h : ShNodes es) (k : Int) : ShNode (frI es k) := by
  unfold frI
  cases hf : es.find? (fun e => inI e == k) with
  | none => exact ⟨0, 0, 0, 0, 0, [], ⟨#[]⟩, [], rfl, ⟨by simp, by simp⟩, ⟨by simp, by simp⟩, by decide⟩
  | some r => exact h.1 _ (List.mem_of_find?_eq_some hf)
theorem reStep {m : Nat} (hm : SpecSound Try.prog 47 (.fz (CRe m) gRe)) : SpecSound Try.prog 47 (.fz (CRe (m + 1)) gRe) := dat_soundC te_ok (GEr_sound hm) mixed isFun_47 (by
  rintro xs Φ ⟨hC, h⟩
  unfold CRe at hC
  split at hC
  · rename_i a b c es k left l0
    obtain ⟨hn, hl0, hlm, hl1, hrows, hlen⟩ := hC
    have h' : Φ (.tup [.sl 1 false (reR es k left l0).1, .bool (reR es k left l0).2]) .none := h
    have hsh := frI_sh hn k
    have hnm := shNames_of hsh
    have hnl := hnm.2
    have main : (left = 0 → sI (frI es k) 7 = []) → ∀ s, ReT 0 s (t47 m a b c es k left (0 : Nat) l0) →
        wLoopC 0 (wCodeC te (GEr m) 0 (bodyAt Try.f47 [false, false, false, true, false, true, true])) s (blkQ 0 (seqQ (wCodeC te (GEr m) 0 (bodyAt Try.f47 [false, false, false, false])) (endQ te Try.f47 (datFin Φ)))) := by
      intro hz s hs
      have hF := re_eq (l := l0) hl0 hz
      generalize reR es k left l0 = F at *
      refine loopC k47 2 (fun n st => ∃ (i : Nat) (l : List (List AV)), i + n = (sI (frI es k) 7).length ∧ st = t47 m a b c es k left i l ∧ IntRows l ∧ F = reGo (reN es (left - 1).toNat) ((sI (frI es k) 7).drop i) l) (by omega) ⟨_, _, ⟨0, l0, Nat.zero_add _, rfl, hrows, hF⟩, hs⟩ ?_
      rintro n st ⟨i, l, hi, rfl, hr, hG⟩
      have hll : l.length ≤ 1000000000 := by
        have := (reGo_mono (reN_mono es (left - 1).toNat) ((sI (frI es k) 7).drop i) l).1
        rw [← hG] at this
        omega
      refine Eq.mpr (b47 ..) ?_
      refine ifB_both (fun c1 => ?_) (fun c1 => ?_)
      · have c1' := lt_of_nleI c1
        have hlt : i < (sI (frI es k) 7).length := by omega
        have hi' : (0 : Int) ≤ i ∧ (i : Int) < ((sI (frI es k) 7).length : Int) := by omega
        have hleft : 1 ≤ left := by
          by_cases hh : left < 1
          · have := hz (by omega)
            rw [this] at hlt
            simp at hlt
          · omega
        have hw : IntKind.i64.wrap ((i : Int) + 1) = ((i + 1 : Nat) : Int) := by rw [IntWalk.i64_in _ (by omega)]; omega
        have hwl : IntKind.i64.wrap (left - 1) = left - 1 := IntWalk.i64_in _ (by omega)
        obtain ⟨s, x, hrow, q0, q1, _⟩ := shName_at hnm hlt
        have hx : inN (sI (frI es k) 7)[i] = x := by rw [hrow]; rfl
        have hdrop : (sI (frI es k) 7).drop i = (sI (frI es k) 7)[i] :: (sI (frI es k) 7).drop (i + 1) := List.drop_eq_getElem_cons hlt
        rw [hdrop] at hG
        simp only [reGo, hx] at hG
        rw [hw, hwl, Nat.zero_add, List.nil_append]
        refine ⟨hi', x, by rw [Int.toNat_natCast]; exact q1, ⟨hr, hll⟩, ifB_both (fun c2 => ?_) (fun c2 => ?_)⟩
        · rw [if_pos c2] at hG
          exact rc_next (n - 1) (by omega) ⟨i + 1, l, by omega, rfl, hr, hG⟩
        · rw [if_neg (by rw [c2]; decide)] at hG
          have hadd : l ++ ([[.int .i64 x]] : List (List AV)) = l ++ oneL x := rfl
          rw [hadd]
          have hrr : reR es x (left - 1) (l ++ oneL x) = reN es (left - 1).toNat x (l ++ oneL x) := rfl
          rw [hrr]
          have hrow2 := (reN_mono es (left - 1).toNat x (l ++ oneL x)).2 (intRows_add hr x)
          have hmono := (reN_mono es (left - 1).toNat x (l ++ oneL x)).1
          have hgo := reGo_mono (reN_mono es (left - 1).toNat) ((sI (frI es k) 7).drop (i + 1)) (reN es (left - 1).toNat x (l ++ oneL x)).1
          have hCl : (reN es (left - 1).toNat x (l ++ oneL x)).1.length ≤ 1000000000 := by
            generalize reN es (left - 1).toNat x (l ++ oneL x) = q at *
            obtain ⟨l', ok⟩ := q
            cases ok with
            | true => simp only at hG hgo ⊢; rw [← hG] at hgo; omega
            | false => simp only at hG ⊢; rw [hG] at hlen; exact hlen
          refine ⟨⟨⟨fits1 l (by omega), rfl⟩, .inl rfl, by unfold room; omega⟩, ⟨rfl, rfl, rfl, by unfold room; omega⟩, ⟨rfl, by simp [oneL]⟩, ⟨hn, by omega, by omega, by omega, intRows_add hr x, hCl⟩, ?_⟩
          generalize reN es (left - 1).toNat x (l ++ oneL x) = q at *
          obtain ⟨l', ok⟩ := q
          cases ok with
          | true =>
            refine ifB_f ?_
            exact rc_next (n - 1) (by omega) ⟨i + 1, l', by omega, rfl, hrow2, hG⟩
          | false =>
            refine ifB_t ?_
            rw [hG] at h'
            exact h'
      · have c1' := le_of_nleI c1
        refine rc_exit ?_
        refine Eq.mpr (e47 ..) ?_
        rw [List.drop_eq_nil_of_le (by omega)] at hG
        rw [hG] at h'
        exact h'
    refine Eq.mpr (v47 ..) ⟨hn, ifB_both (fun c1 => ?_) (fun c1 => main (fun hh => absurd hh (ne_of_beq_false c1)) _ (reT_to k47 2 rfl (by omega) rfl))⟩
    have hl : left = 0 := eq_of_beq c1
    refine ifB_both (fun c2 => ?_) (fun c2 => main (fun _ => ?_) _ (reT_to k47 2 rfl (by omega) rfl))
    · have c2' := lt_of_nleI c2
      have : reR es k left l0 = (l0, false) := by
        unfold reR
        rw [hl]
        show (l0, (sI (frI es k) 7).isEmpty) = _
        cases hh : sI (frI es k) 7 with
        | nil => rw [hh] at c2'; simp at c2'
        | cons => rfl
      rw [this] at h'
      exact h'
    · have c2' := le_of_nleI c2
      exact List.eq_nil_of_length_eq_zero (by omega)
  · cases hC)
theorem reAll : ∀ m : Nat, SpecSound Try.prog 47 (.fz (CRe m) gRe)
  | 0 => by
    rintro w S ρ xs args Φ hlt hxs ⟨hC, _⟩
    exfalso
    unfold CRe at hC
    split at hC
    · omega
    · exact hC
  | m + 1 => reStep (reAll m)
def CReA (xs : List AV) : Prop := CRe 1000000 xs
theorem fn47 : SpecSound Try.prog 47 (.fz CReA gRe) := reAll 1000000
/-! Used, of whatever is of the shape -/
def UsOK (es : List (List AV)) : Prop := (∀ r ∈ es, r.getD 5 .junk = .sl 2 false (sI r 5) ∧ (sI r 5).length ≤ 1000000000) ∧ es.length ≤ 1000000000
theorem us_of_sh {es : List (List AV)} (h : ShNodes es) : UsOK es := by
  refine ⟨fun r hr => ?_, h.2⟩
  obtain ⟨d0, d1, d2, d3, d4, bl, t, nm, rfl, hbl, _⟩ := h.1 r hr
  exact ⟨rfl, hbl.2⟩
def CUs : List AV → Prop
  | [.agg [.int .i64 _, .int .i64 _, .int .i64 _, .sl 8 false es]] => UsOK es
  | _ => False
theorem fn12' : SpecSound Try.prog 12 (.fn CUs gUsed) := dat_soundC te_ok nGE'_sound mixed isFun_12 (by
  rintro xs Φ ⟨hC, h⟩
  unfold CUs at hC
  split at hC
  · rename_i a b c es
    obtain ⟨hn, hl⟩ := hC
    refine Eq.mpr (v12 ..) ?_
    refine loopC k12 1 (fun n st => ∃ i : Nat, i + n = es.length ∧ st = t12 a b c es (usedR (es.take i)) i) (by omega) ⟨es.length, _, ⟨0, by omega, rfl⟩, reT_to k12 1 rfl (by omega) rfl⟩ ?_
    rintro n st ⟨i, hi, rfl⟩
    rw [b12]
    refine ifB_both (fun c1 => ?_) (fun c1 => ?_)
    · have c1' := lt_of_nleI c1
      have hlt : i < es.length := by omega
      obtain ⟨h5, hbl⟩ := hn _ (List.getElem_mem hlt)
      have hb : usedR (es.take (i + 1)) ≤ 1000000000000000000 := by
        have h1 := used_le (es := es.take (i + 1)) (fun r hr => (hn r (List.mem_of_mem_take hr)).2)
        have : (es.take (i + 1)).length ≤ es.length := by simp; omega
        have := Nat.mul_le_mul_right 1000000000 (Nat.le_trans this hl)
        omega
      have ht := used_take hlt
      have hw : IntKind.i64.wrap ((i : Int) + 1) = ((i + 1 : Nat) : Int) := by rw [IntWalk.i64_in _ (by omega)]; omega
      have hw2 : IntKind.i64.wrap ((usedR (es.take i) : Int) + ((sI es[i] 5).length : Int)) = (usedR (es.take (i + 1)) : Int) := by rw [IntWalk.i64_in _ (by omega)]; omega
      have hc : cellAt es i 5 = es[i].getD 5 .junk := by simp [cellAt, List.getD_eq_getElem?_getD, List.getElem?_eq_getElem hlt]
      refine ⟨by omega, _, by rw [Int.toNat_natCast, hc]; exact h5, ?_⟩
      rw [hw, hw2]
      exact rc_next (n - 1) (by omega) ⟨i + 1, by omega, rfl⟩
    · have c1' := le_of_nleI c1
      refine rc_exit ?_
      rw [e12, List.take_of_length_le (by omega)]
      exact h
  · cases hC)
/-! Is -/
theorem isFun_20 : IsFun Try.prog 20 Try.f20 := ⟨Try.func20, by kernel_rfl, by kernel_rfl⟩
def GE20 : GE := fun f => match f with
  | 12 => some (.fn CUs gUsed)
  | 45 => some (.fn CSd gSd)
  | 46 => some (.fn CNm3 gNm3)
  | 47 => some (.fz CReA gRe)
  | _ => none
theorem GE20_sound : Sound Try.prog GE20 := by
  intro f sp h
  unfold GE20 at h
  split at h
  · cases h; exact fn12'
  · cases h; exact fn45
  · cases h; exact fn46
  · cases h; exact fn47
  · cases h
theorem v20 (a b c : Int) (es : List (List AV)) (Φ : AV → Ent → Prop) : wFunC te GE20 Try.f20 [(dA a b c es)] [] (datFin Φ) = (CUs [(dA a b c es)] ∧ (ifB (!leI 0 a) (Φ (.bool false) .none) (ifB (!leI a 1048576) (Φ (.bool false) .none) (ifB (!leI 1 b) (Φ (.bool false) .none) (ifB (!leI b 4096) (Φ (.bool false) .none) (ifB (!leI (usedR es : Int) a) (Φ (.bool false) .none) (ifB (!leI (es.length : Int) b) (Φ (.bool false) .none) (ifB (!leI 1 c) (Φ (.bool false) .none) (ifB (leI 4611686018427387904 c) (Φ (.bool false) .none) (ifB ((es.length : Int) == 0) (Φ (.bool false) .none) ((0 ≤ (0 : Int) ∧ (0 : Int) < (es.length : Int)) ∧ (∃ n65, cellAt es 0 0 = (.int .i64 n65) ∧ (ifB (n65 != 1) (Φ (.bool false) .none) ((0 ≤ (0 : Int) ∧ (0 : Int) < (es.length : Int)) ∧ (∃ n66, cellAt es 0 1 = (.int .i64 n66) ∧ (ifB (n66 != 2) (Φ (.bool false) .none) (wLoopC 0 (wCodeC te GE20 0 (bodyAt Try.f20 [false, false, false, true, false, true, true])) ⟨((dA a b c es) :: ((.ptr 0 0) :: ((.bool false) :: ((.int .i64 (usedR es : Int)) :: ((.int .i64 (es.length : Int)) :: ((.int .i64 0) :: (jk 4 ((.tup [(.int .i64 (usedR es : Int)), (.int .i64 (es.length : Int))]) :: ((dA a b c es) :: ((.tup [(.int .i64 (usedR es : Int)), (.int .i64 (es.length : Int))]) :: ((.int .i64 (usedR es : Int)) :: ((.int .i64 (es.length : Int)) :: ((.ptr 0 0) :: ((.int .i64 a) :: ((.bool (!leI 0 a)) :: ((.bool false) :: ((.ptr 0 0) :: ((.int .i64 a) :: ((.bool (!leI a 1048576)) :: ((.bool (!leI a 1048576)) :: ((.bool false) :: ((.ptr 0 1) :: ((.int .i64 b) :: ((.bool (!leI 1 b)) :: ((.bool (!leI 1 b)) :: ((.bool false) :: ((.ptr 0 1) :: ((.int .i64 b) :: ((.bool (!leI b 4096)) :: ((.bool (!leI b 4096)) :: ((.bool false) :: ((.int .i64 (usedR es : Int)) :: ((.ptr 0 0) :: ((.int .i64 a) :: ((.bool (!leI (usedR es : Int) a)) :: ((.bool (!leI (usedR es : Int) a)) :: ((.bool false) :: ((.int .i64 (es.length : Int)) :: ((.ptr 0 1) :: ((.int .i64 b) :: ((.bool (!leI (es.length : Int) b)) :: ((.bool (!leI (es.length : Int) b)) :: ((.bool false) :: ((.ptr 0 2) :: ((.int .i64 c) :: ((.bool (!leI 1 c)) :: ((.bool (!leI 1 c)) :: ((.bool false) :: ((.ptr 0 2) :: ((.int .i64 c) :: ((.bool (leI 4611686018427387904 c)) :: ((.bool (leI 4611686018427387904 c)) :: ((.bool false) :: ((.int .i64 (es.length : Int)) :: ((.bool ((es.length : Int) == 0)) :: ((.bool ((es.length : Int) == 0)) :: ((.bool false) :: ((.ptr 0 3) :: ((.sl 8 false es) :: ((.rptr 8 es 0 0) :: ((.rptr 8 es 0 0) :: ((.int .i64 n65) :: ((.bool (n65 != 1)) :: ((.bool (n65 != 1)) :: ((.bool false) :: ((.ptr 0 3) :: ((.sl 8 false es) :: ((.rptr 8 es 0 0) :: ((.rptr 8 es 0 1) :: ((.int .i64 n66) :: ((.bool (n66 != 2)) :: ((.bool (n66 != 2)) :: (jk 71 []))))))))))))))))))))))))))))))))))))))))))))))))))))))))))))))))))))))))), [(dV a b c es)]⟩ (blkQ 0 (seqQ (wCodeC te GE20 0 (bodyAt Try.f20 [false, false, false, false])) (endQ te Try.f20 (datFin Φ))))))))))))))))))))) := by kernel_rfl
def t20 (a b c : Int) (es : List (List AV)) (i : Int) : St := ⟨(jk 1 ((.ptr 0 0) :: (jk 2 ((.int .i64 (es.length : Int)) :: ((.int .i64 i) :: (jk 140 [])))))), [(dV a b c es)]⟩
def k20 : List Bool := [false, true, false, false, true, true, false, false, false, false, false, false, false, false, false, false, false, false, false, false, false, false, false, false, false, false, false, false, false, false, false, false, false, false, false, false, false, false, false, false, false, false, false, false, false, false, false, false, false, false, false, false, false, false, false, false, false, false, false, false, false, false, false, false, false, false, false, false, false, false, false, false, false, false, false, false, false, false, false, false, false, false, false, false, false, false, false, false, false, false, false, false, false, false, false, false, false, false, false, false, false, false, false, false, false, false, false, false, false, false, false, false, false, false, false, false, false, false, false, false, false, false, false, false, false, false, false, false, false, false, false, false, false, false, false, false, false, false, false, false, false, false, false, false, false, false]
theorem b20 (a b c : Int) (es : List (List AV)) (i : Int) (K : KontX) (Φ : AV → Ent → Prop) : wCodeC te GE20 0 (bodyAt Try.f20 [false, false, false, true, false, true, true]) (t20 a b c es i) (cutK ((endQ te Try.f20 (datFin Φ)) .ret) k20 1 K) = (ifB (!leI (es.length : Int) i) ((0 ≤ i ∧ i < (es.length : Int)) ∧ (∃ n67, cellAt es i.toNat 0 = (.int .i64 n67) ∧ ∃ n68, cellAt es i.toNat 1 = (.int .i64 n68) ∧ ∃ n69, cellAt es i.toNat 2 = (.int .i64 n69) ∧ ∃ n70, cellAt es i.toNat 3 = (.int .i64 n70) ∧ ∃ n71, cellAt es i.toNat 4 = (.int .i64 n71) ∧ ∃ r72, cellAt es i.toNat 5 = (.sl 2 false r72) ∧ ∃ s73, cellAt es i.toNat 6 = (.str s73) ∧ ∃ r74, cellAt es i.toNat 7 = (.sl 2 false r74) ∧ (ifB (leI c n67) (Φ (.bool false) .none) (ifB (!leI i 0) ((0 ≤ (IntKind.i64.wrap (i - 1)) ∧ (IntKind.i64.wrap (i - 1)) < (es.length : Int)) ∧ (∃ n75, cellAt es (IntKind.i64.wrap (i - 1)).toNat 0 = (.int .i64 n75) ∧ (ifB (leI n67 n75) (Φ (.bool false) .none) (CSd [(dA a b c es), (.agg [(.int .i64 n67), (.int .i64 n68), (.int .i64 n69), (.int .i64 n70), (.int .i64 n71), (.sl 2 false r72), (.str s73), (.sl 2 false r74)])] ∧ (ifB (!(sndB es [(.int .i64 n67), (.int .i64 n68), (.int .i64 n69), (.int .i64 n70), (.int .i64 n71), (.sl 2 false r72), (.str s73), (.sl 2 false r74)])) (Φ (.bool false) .none) (CNm3 [(dA a b c es), (.int .i64 n67)] ∧ (ifB (i == 0) (ifB ((IntKind.i64.wrap ((cntD es n67 : Int) + 1)) != n70) (Φ (.bool false) .none) (ifB (n68 == 2) (ifB ((IntKind.i64.wrap ((cntD es n67 : Int) + 1)) != 1) (Φ (.bool false) .none) (K .normal (t20 a b c es (IntKind.i64.wrap (i + 1))))) (K .normal (t20 a b c es (IntKind.i64.wrap (i + 1)))))) (ifB ((cntD es n67 : Int) != n70) (Φ (.bool false) .none) (ifB (n68 == 2) (ifB ((cntD es n67 : Int) != 1) (Φ (.bool false) .none) (K .normal (t20 a b c es (IntKind.i64.wrap (i + 1))))) (K .normal (t20 a b c es (IntKind.i64.wrap (i + 1))))))))))))) (CSd [(dA a b c es), (.agg [(.int .i64 n67), (.int .i64 n68), (.int .i64 n69), (.int .i64 n70), (.int .i64 n71), (.sl 2 false r72), (.str s73), (.sl 2 false r74)])] ∧ (ifB (!(sndB es [(.int .i64 n67), (.int .i64 n68), (.int .i64 n69), (.int .i64 n70), (.int .i64 n71), (.sl 2 false r72), (.str s73), (.sl 2 false r74)])) (Φ (.bool false) .none) (CNm3 [(dA a b c es), (.int .i64 n67)] ∧ (ifB (i == 0) (ifB ((IntKind.i64.wrap ((cntD es n67 : Int) + 1)) != n70) (Φ (.bool false) .none) (ifB (n68 == 2) (ifB ((IntKind.i64.wrap ((cntD es n67 : Int) + 1)) != 1) (Φ (.bool false) .none) (K .normal (t20 a b c es (IntKind.i64.wrap (i + 1))))) (K .normal (t20 a b c es (IntKind.i64.wrap (i + 1)))))) (ifB ((cntD es n67 : Int) != n70) (Φ (.bool false) .none) (ifB (n68 == 2) (ifB ((cntD es n67 : Int) != 1) (Φ (.bool false) .none) (K .normal (t20 a b c es (IntKind.i64.wrap (i + 1))))) (K .normal (t20 a b c es (IntKind.i64.wrap (i + 1)))))))))))))) (K (.exit 0) (t20 a b c es i))) := by kernel_rfl
theorem e20 (a b c : Int) (es : List (List AV)) (i : Int) (Φ : AV → Ent → Prop) : wCodeC te GE20 0 (bodyAt Try.f20 [false, false, false, false]) (t20 a b c es i) (endQ te Try.f20 (datFin Φ)) = (CReA [(dA a b c es), (.int .i64 1), (.int .i64 16), (.sl 1 false [[(.int .i64 1)]])] ∧ (ifB (reR es 1 16 [[(.int .i64 1)]]).2 (Φ (.bool (((reR es 1 16 [[(.int .i64 1)]]).1.length : Int) == (es.length : Int))) .none) (Φ (.bool false) .none))) := by kernel_rfl
theorem inI_nI (r : List AV) : inI r = nI r 0 := by
  cases r with
  | nil => rfl
  | cons x r => cases x <;> rfl
def mnI (es : List (List AV)) (i : Nat) : Int := (cntD es (nI (es.getD i []) 0) : Int) + (if i = 0 then 1 else 0)
def ndB (c : Int) (es : List (List AV)) (i : Nat) : Bool :=
  !leI c (nI (es.getD i []) 0) && ((i == 0 || !leI (nI (es.getD i []) 0) (nI (es.getD (i - 1) []) 0)) && (sndB es (es.getD i []) && ((mnI es i == nI (es.getD i []) 3) && (!(nI (es.getD i []) 1 == 2) || (mnI es i == 1)))))
def preB (a b c : Int) (es : List (List AV)) : Bool :=
  leI 0 a && (leI a 1048576 && (leI 1 b && (leI b 4096 && (leI (usedR es : Int) a && (leI (es.length : Int) b && (leI 1 c && (!leI 4611686018427387904 c && (!((es.length : Int) == 0) && ((nI (es.getD 0 []) 0 == 1) && (nI (es.getD 0 []) 1 == 2))))))))))
def reB (es : List (List AV)) : Bool := (reR es 1 16 (oneL 1)).2 && (((reR es 1 16 (oneL 1)).1.length : Int) == (es.length : Int))
def isD (a b c : Int) (es : List (List AV)) : Bool := preB a b c es && ((List.range es.length).all (ndB c es) && reB es)
/-! What is reached are nodes, each once. -/
theorem nodup_len {α : Type} [BEq α] [LawfulBEq α] : ∀ {l m : List α}, l.Nodup → (∀ x ∈ l, x ∈ m) → l.length ≤ m.length
  | [], m, _, _ => Nat.zero_le _
  | x :: l, m, hn, hs => by
    obtain ⟨h1, h2⟩ := List.nodup_cons.1 hn
    have hx := hs x List.mem_cons_self
    have := nodup_len (m := m.erase x) h2 (fun y hy => (List.mem_erase_of_ne (show y ≠ x from fun h => h1 (by rw [← h]; exact hy))).2 (hs y (List.mem_cons_of_mem _ hy)))
    rw [List.length_erase_of_mem hx] at this
    have hp := List.length_pos_of_mem hx
    simp only [List.length_cons]
    omega
def Rch (es l : List (List AV)) : Prop := (l.map inI).Nodup ∧ ∀ y ∈ l.map inI, y ∈ es.map inI
theorem rch_add {es l : List (List AV)} (h : Rch es l) {x : Int} (hx : hasL l x = false) (hm : x ∈ es.map inI) : Rch es (l ++ oneL x) := by
  have hn : x ∉ l.map inI := by
    intro hh
    obtain ⟨e, he, hk⟩ := List.mem_map.1 hh
    unfold hasL at hx
    rw [List.any_eq_false] at hx
    exact hx e he (by simpa using hk)
  refine ⟨?_, fun y hy => ?_⟩
  · rw [List.map_append, List.nodup_append]
    refine ⟨h.1, by simp [oneL], fun a ha b hb => ?_⟩
    simp [oneL, inI] at hb
    subst hb
    exact fun hh => hn (hh ▸ ha)
  · rw [List.map_append] at hy
    rcases List.mem_append.1 hy with hy | hy
    · exact h.2 y hy
    · simp [oneL, inI] at hy
      subst hy
      exact hm
theorem reGo_rch {es : List (List AV)} {rec : Int → List (List AV) → List (List AV) × Bool} (hrec : ∀ k l, Rch es l → Rch es (rec k l).1) : ∀ (nm l : List (List AV)), (∀ e ∈ nm, inN e ∈ es.map inI) → Rch es l → Rch es (reGo rec nm l).1
  | [], l, _, h => h
  | e :: nm, l, hm, h => by
    simp only [reGo]
    split
    · exact reGo_rch hrec nm l (fun e' he' => hm e' (List.mem_cons_of_mem _ he')) h
    · rename_i hh
      have h1 := hrec (inN e) (l ++ oneL (inN e)) (rch_add h (by simpa using hh) (hm e List.mem_cons_self))
      generalize rec (inN e) (l ++ oneL (inN e)) = q at *
      obtain ⟨l', ok⟩ := q
      cases ok with
      | true => exact reGo_rch hrec nm l' (fun e' he' => hm e' (List.mem_cons_of_mem _ he')) h1
      | false => exact h1
theorem reN_rch {es : List (List AV)} (hm : ∀ k, ∀ e ∈ sI (frI es k) 7, inN e ∈ es.map inI) : ∀ (n : Nat) (k : Int) (l : List (List AV)), Rch es l → Rch es (reN es n k l).1
  | 0, k, l, h => h
  | n + 1, k, l, h => reGo_rch (reN_rch hm n) _ l (hm k) h
theorem fh_mem {es : List (List AV)} {k : Int} (h : fhI es k = true) : k ∈ es.map inI := by
  unfold fhI at h
  rw [List.any_eq_true] at h
  obtain ⟨e, he, hk⟩ := h
  exact List.mem_map.2 ⟨e, he, by simpa using hk⟩
theorem snd_names {es : List (List AV)} {r : List AV} (h : sndB es r = true) : ∀ e ∈ sI r 7, inN e ∈ es.map inI := by
  unfold sndB at h
  have h2 := (Bool.and_eq_true_iff.1 h).2
  rw [List.all_eq_true] at h2
  intro e he
  obtain ⟨i, hi, rfl⟩ := List.getElem_of_mem he
  have := h2 i (List.mem_range.2 hi)
  unfold nmB at this
  have h3 := (Bool.and_eq_true_iff.1 this).1
  rw [List.getD_eq_getElem?_getD, List.getElem?_eq_getElem hi] at h3
  exact fh_mem h3
theorem fr_names {es : List (List AV)} (h : ∀ r ∈ es, sndB es r = true) (k : Int) : ∀ e ∈ sI (frI es k) 7, inN e ∈ es.map inI := by
  unfold frI
  cases hf : es.find? (fun e => inI e == k) with
  | none => intro e he; simp [zN, sI] at he
  | some r => exact snd_names (h r (List.mem_of_find?_eq_some hf))
theorem nd_snd {c : Int} {es : List (List AV)} (h : ∀ j < es.length, ndB c es j = true) : ∀ r ∈ es, sndB es r = true := by
  intro r hr
  obtain ⟨i, hi, rfl⟩ := List.getElem_of_mem hr
  have := h i hi
  unfold ndB at this
  have h3 := (Bool.and_eq_true_iff.1 (Bool.and_eq_true_iff.1 (Bool.and_eq_true_iff.1 this).2).2).1
  rw [List.getD_eq_getElem?_getD, List.getElem?_eq_getElem hi] at h3
  exact h3
theorem re_len {c : Int} {es : List (List AV)} (h : ∀ j < es.length, ndB c es j = true) (h1 : (1 : Int) ∈ es.map inI) : (reR es 1 16 (oneL 1)).1.length ≤ es.length := by
  have := reN_rch (fr_names (nd_snd h)) (16 : Int).toNat 1 (oneL 1) ⟨by simp [oneL], fun y hy => by simp [oneL, inI] at hy; subst hy; exact h1⟩
  have := nodup_len this.1 this.2
  simpa [reR] using this
def CIs3 : List AV → Prop
  | [.agg [.int .i64 _, .int .i64 _, .int .i64 _, .sl 8 false es]] => ShNodes es
  | _ => False
def gIs3 : List AV → AV
  | [.agg [.int _ a, .int _ b, .int _ c, .sl _ _ es]] => .bool (isD a b c es)
  | _ => .junk
theorem fn20 : SpecSound Try.prog 20 (.fn CIs3 gIs3) := dat_soundC te_ok GE20_sound mixed isFun_20 (by
  rintro xs Φ ⟨hC, h⟩
  unfold CIs3 at hC
  split at hC
  · rename_i a b c es
    have hn : ShNodes es := hC
    have hl := hn.2
    have h' : Φ (.bool (isD a b c es)) .none := h
    have no : preB a b c es = false → Φ (.bool false) .none := fun hh => phi_b h' (by unfold isD; rw [hh]; rfl)
    refine Eq.mpr (v20 ..) ⟨us_of_sh hn, ?_⟩
    refine ifB_both (fun x1 => no (by unfold preB; simp_all)) (fun x1 => ?_)
    refine ifB_both (fun x2 => no (by unfold preB; simp_all)) (fun x2 => ?_)
    refine ifB_both (fun x3 => no (by unfold preB; simp_all)) (fun x3 => ?_)
    refine ifB_both (fun x4 => no (by unfold preB; simp_all)) (fun x4 => ?_)
    refine ifB_both (fun x5 => no (by unfold preB; simp_all)) (fun x5 => ?_)
    refine ifB_both (fun x6 => no (by unfold preB; simp_all)) (fun x6 => ?_)
    refine ifB_both (fun x7 => no (by unfold preB; simp_all)) (fun x7 => ?_)
    refine ifB_both (fun x8 => no (by unfold preB; simp_all)) (fun x8 => ?_)
    refine ifB_both (fun x9 => no (by unfold preB; rw [x9]; simp)) (fun x9 => ?_)
    have hpos : 0 < es.length := by have := ne_of_beq_false x9; omega
    have hg0 : es.getD 0 [] = es[0] := by rw [List.getD_eq_getElem?_getD, List.getElem?_eq_getElem hpos]; rfl
    have hc0 : cellAt es 0 0 = .int .i64 (nI es[0] 0) ∧ cellAt es 0 1 = .int .i64 (nI es[0] 1) := by
      obtain ⟨d0, d1, d2, d3, d4, bl, t, nm, hrow, _⟩ := hn.1 _ (List.getElem_mem hpos)
      have hc : ∀ k, cellAt es 0 k = es[0].getD k .junk := fun k => by simp [cellAt, List.getD_eq_getElem?_getD, List.getElem?_eq_getElem hpos]
      rw [hc, hc, hrow]
      exact ⟨rfl, rfl⟩
    have hP : preB a b c es = ((nI es[0] 0 == 1) && (nI es[0] 1 == 2)) := by
      unfold preB
      rw [hg0, x8, x9, show leI 0 a = true by simpa using x1, show leI a 1048576 = true by simpa using x2, show leI 1 b = true by simpa using x3, show leI b 4096 = true by simpa using x4, show leI (usedR es : Int) a = true by simpa using x5, show leI (es.length : Int) b = true by simpa using x6, show leI 1 c = true by simpa using x7]
      rfl
    refine ⟨by omega, _, hc0.1, ifB_both (fun y1 => no (by rw [hP, show (nI es[0] 0 == 1) = false by simpa using y1]; rfl)) (fun y1 => ⟨by omega, _, hc0.2, ifB_both (fun y2 => no (by rw [hP, show (nI es[0] 1 == 2) = false by simpa using y2, Bool.and_false])) (fun y2 => ?_)⟩)⟩
    have h1m : (1 : Int) ∈ es.map inI := List.mem_map.2 ⟨es[0], List.getElem_mem hpos, by rw [inI_nI]; exact eq_of_nbne y1⟩
    have hP1 : preB a b c es = true := by rw [hP, show (nI es[0] 0 == 1) = true by simpa using y1, show (nI es[0] 1 == 2) = true by simpa using y2]; rfl
    have hI : isD a b c es = ((List.range es.length).all (ndB c es) && reB es) := by unfold isD; rw [hP1, Bool.true_and]
    rw [hI] at h'
    clear no
    refine loopC k20 1 (fun n st => ∃ i : Nat, i + n = es.length ∧ st = t20 a b c es i ∧ ∀ j < i, ndB c es j = true) (by omega) ⟨es.length, _, ⟨0, by omega, rfl, by simp⟩, reT_to k20 1 rfl (by omega) rfl⟩ ?_
    rintro n st ⟨i, hi, rfl, hinv⟩
    refine Eq.mpr (b20 ..) ?_
    refine ifB_both (fun c1 => ?_) (fun c1 => ?_)
    · have c1' := lt_of_nleI c1
      have hlt : i < es.length := by omega
      have hi' : (0 : Int) ≤ i ∧ (i : Int) < (es.length : Int) := by omega
      have hw : IntKind.i64.wrap ((i : Int) + 1) = ((i + 1 : Nat) : Int) := by rw [IntWalk.i64_in _ (by omega)]; omega
      have hnode := hn.1 _ (List.getElem_mem hlt)
      have hnode' : ShNode (cells es[i]) := by rw [shNode_cells hnode]; exact hnode
      have hget : es.getD i [] = es[i] := by rw [List.getD_eq_getElem?_getD, List.getElem?_eq_getElem hlt]; rfl
      have hwc : IntKind.i64.wrap ((cntD es (nI es[i] 0) : Int) + 1) = (cntD es (nI es[i] 0) : Int) + 1 := by
        have h1 := cntD_le (es := es) (fun r hr => (shNames_of (hn.1 r hr)).2) (nI es[i] 0)
        have := Nat.mul_le_mul_right 1000000000 hl
        exact IntWalk.i64_in _ (by omega)
      have no : ndB c es i = false → Φ (.bool false) .none := fun hh => phi_b h' (by rw [all_bad hlt hh]; rfl)
      have nx : ndB c es i = true → roundC 0 (fun n st => ∃ i : Nat, i + n = es.length ∧ st = t20 a b c es i ∧ ∀ j < i, ndB c es j = true) n (blkQ 0 (seqQ (wCodeC te GE20 0 (bodyAt Try.f20 [false, false, false, false])) (endQ te Try.f20 (datFin Φ)))) .normal (t20 a b c es ((i + 1 : Nat) : Int)) := fun hh => by
        refine rc_next (n - 1) (by omega) ⟨i + 1, by omega, rfl, fun j hj => ?_⟩
        rcases Nat.lt_or_ge j i with hji | hji
        · exact hinv j hji
        · have : j = i := by omega
          subst this
          exact hh
      have hB : ndB c es i = (!leI c (nI es[i] 0) && ((i == 0 || !leI (nI es[i] 0) (nI (es.getD (i - 1) []) 0)) && (sndB es es[i] && ((mnI es i == nI es[i] 3) && (!(nI es[i] 1 == 2) || (mnI es i == 1)))))) := by unfold ndB; rw [hget]
      rw [hw]
      refine ⟨hi', ?_⟩
      refine exSh hn (by rw [Int.toNat_natCast]; exact hlt) ?_
      simp only [Int.toNat_natCast]
      refine ifB_both (fun k1 => no (by rw [hB, k1]; rfl)) (fun k1 => ?_)
      rw [k1, Bool.not_false, Bool.true_and] at hB
      refine ifB_both (fun k2 => ?_) (fun k2 => ?_)
      · have k2' := lt_of_nleI k2
        have hw5 : IntKind.i64.wrap ((i : Int) - 1) = ((i - 1 : Nat) : Int) := by rw [IntWalk.i64_in _ (by omega)]; omega
        have hlt1 : i - 1 < es.length := by omega
        have hget1 : es.getD (i - 1) [] = es[i - 1] := by rw [List.getD_eq_getElem?_getD, List.getElem?_eq_getElem hlt1]; rfl
        have hz : (i == 0) = false := by simp; omega
        rw [hw5]
        refine ⟨by omega, _, by rw [Int.toNat_natCast]; exact ino_cell hn hlt1, ?_⟩
        rw [inI_nI]
        rw [hz, hget1, Bool.false_or] at hB
        refine ifB_both (fun k8 => no (by rw [hB, k8]; rfl)) (fun k8 => ?_)
        rw [k8, Bool.not_false, Bool.true_and] at hB
        refine ⟨⟨hn, hnode'⟩, ifB_both (fun k3 => no ?_) (fun k3 => ⟨hn, ifB_both (fun k4 => ?_) (fun k4 => ?_)⟩)⟩
        · have k3' : (!sndB es (cells es[i])) = true := k3
          rw [shNode_cells hnode] at k3'
          rw [hB, show sndB es es[i] = false by simpa using k3']
          rfl
        · have k3' : (!sndB es (cells es[i])) = false := k3
          rw [shNode_cells hnode] at k3'
          rw [show sndB es es[i] = true by simpa using k3', Bool.true_and] at hB
          have hi0 : i = 0 := by have := eq_of_beq k4; omega
          have hM : mnI es i = (cntD es (nI es[i] 0) : Int) + 1 := by unfold mnI; rw [hget, if_pos hi0]
          rw [hwc]
          rw [hM] at hB
          refine ifB_both (fun k5 => no ?_) (fun k5 => ifB_both (fun k6 => ifB_both (fun k7 => no ?_) (fun k7 => nx ?_)) (fun k6 => nx ?_))
          · rw [hB, show ((cntD es (nI es[i] 0) : Int) + 1 == nI es[i] 3) = false by simpa using k5]; rfl
          · rw [hB, k6, show ((cntD es (nI es[i] 0) : Int) + 1 == 1) = false by simpa using k7, Bool.not_true, Bool.false_or, Bool.and_false]
          · rw [hB, show ((cntD es (nI es[i] 0) : Int) + 1 == nI es[i] 3) = true by simpa using k5, show ((cntD es (nI es[i] 0) : Int) + 1 == 1) = true by simpa using k7, Bool.or_true]; rfl
          · rw [hB, k6, show ((cntD es (nI es[i] 0) : Int) + 1 == nI es[i] 3) = true by simpa using k5]; rfl
        · have k3' : (!sndB es (cells es[i])) = false := k3
          rw [shNode_cells hnode] at k3'
          rw [show sndB es es[i] = true by simpa using k3', Bool.true_and] at hB
          have hi0 : ¬ i = 0 := by have := ne_of_beq_false k4; omega
          have hM : mnI es i = (cntD es (nI es[i] 0) : Int) := by unfold mnI; rw [hget, if_neg hi0]; omega
          rw [hM] at hB
          refine ifB_both (fun k5 => no ?_) (fun k5 => ifB_both (fun k6 => ifB_both (fun k7 => no ?_) (fun k7 => nx ?_)) (fun k6 => nx ?_))
          · rw [hB, show ((cntD es (nI es[i] 0) : Int) == nI es[i] 3) = false by simpa using k5]; rfl
          · rw [hB, k6, show ((cntD es (nI es[i] 0) : Int) == 1) = false by simpa using k7, Bool.not_true, Bool.false_or, Bool.and_false]
          · rw [hB, show ((cntD es (nI es[i] 0) : Int) == nI es[i] 3) = true by simpa using k5, show ((cntD es (nI es[i] 0) : Int) == 1) = true by simpa using k7, Bool.or_true]; rfl
          · rw [hB, k6, show ((cntD es (nI es[i] 0) : Int) == nI es[i] 3) = true by simpa using k5]; rfl
      · have k2' := le_of_nleI k2
        have hz : (i == 0) = true := by simp; omega
        rw [hz, Bool.true_or, Bool.true_and] at hB
        refine ⟨⟨hn, hnode'⟩, ifB_both (fun k3 => no ?_) (fun k3 => ⟨hn, ifB_both (fun k4 => ?_) (fun k4 => ?_)⟩)⟩
        · have k3' : (!sndB es (cells es[i])) = true := k3
          rw [shNode_cells hnode] at k3'
          rw [hB, show sndB es es[i] = false by simpa using k3']
          rfl
        · have k3' : (!sndB es (cells es[i])) = false := k3
          rw [shNode_cells hnode] at k3'
          rw [show sndB es es[i] = true by simpa using k3', Bool.true_and] at hB
          have hi0 : i = 0 := by have := eq_of_beq k4; omega
          have hM : mnI es i = (cntD es (nI es[i] 0) : Int) + 1 := by unfold mnI; rw [hget, if_pos hi0]
          rw [hwc]
          rw [hM] at hB
          refine ifB_both (fun k5 => no ?_) (fun k5 => ifB_both (fun k6 => ifB_both (fun k7 => no ?_) (fun k7 => nx ?_)) (fun k6 => nx ?_))
          · rw [hB, show ((cntD es (nI es[i] 0) : Int) + 1 == nI es[i] 3) = false by simpa using k5]; rfl
          · rw [hB, k6, show ((cntD es (nI es[i] 0) : Int) + 1 == 1) = false by simpa using k7, Bool.not_true, Bool.false_or, Bool.and_false]
          · rw [hB, show ((cntD es (nI es[i] 0) : Int) + 1 == nI es[i] 3) = true by simpa using k5, show ((cntD es (nI es[i] 0) : Int) + 1 == 1) = true by simpa using k7, Bool.or_true]; rfl
          · rw [hB, k6, show ((cntD es (nI es[i] 0) : Int) + 1 == nI es[i] 3) = true by simpa using k5]; rfl
        · have k3' : (!sndB es (cells es[i])) = false := k3
          rw [shNode_cells hnode] at k3'
          rw [show sndB es es[i] = true by simpa using k3', Bool.true_and] at hB
          have hi0 : ¬ i = 0 := by have := ne_of_beq_false k4; omega
          have hM : mnI es i = (cntD es (nI es[i] 0) : Int) := by unfold mnI; rw [hget, if_neg hi0]; omega
          rw [hM] at hB
          refine ifB_both (fun k5 => no ?_) (fun k5 => ifB_both (fun k6 => ifB_both (fun k7 => no ?_) (fun k7 => nx ?_)) (fun k6 => nx ?_))
          · rw [hB, show ((cntD es (nI es[i] 0) : Int) == nI es[i] 3) = false by simpa using k5]; rfl
          · rw [hB, k6, show ((cntD es (nI es[i] 0) : Int) == 1) = false by simpa using k7, Bool.not_true, Bool.false_or, Bool.and_false]
          · rw [hB, show ((cntD es (nI es[i] 0) : Int) == nI es[i] 3) = true by simpa using k5, show ((cntD es (nI es[i] 0) : Int) == 1) = true by simpa using k7, Bool.or_true]; rfl
          · rw [hB, k6, show ((cntD es (nI es[i] 0) : Int) == nI es[i] 3) = true by simpa using k5]; rfl
    · have c1' := le_of_nleI c1
      refine rc_exit ?_
      have hall : ∀ j < es.length, ndB c es j = true := fun j hj => hinv j (by omega)
      rw [all_ok hall, Bool.true_and] at h'
      have hlen := re_len hall h1m
      refine Eq.mpr (e20 ..) ⟨⟨hn, by omega, by omega, by omega, ?_, ?_⟩, ?_⟩
      · intro e he
        simp at he
        exact ⟨1, he⟩
      · have : (reR es 1 16 [[.int .i64 1]]).1.length ≤ es.length := hlen
        omega
      · unfold reB at h'
        refine ifB_both (fun z1 => ?_) (fun z1 => ?_)
        · have z1' : (reR es 1 16 (oneL 1)).2 = true := z1
          rw [z1', Bool.true_and] at h'
          exact h'
        · have z1' : (reR es 1 16 (oneL 1)).2 = false := z1
          rw [z1', Bool.false_and] at h'
          exact h'
  · cases hC)
end Go.Proofs.Ytdojencjbmahpaa
end
/-
  'veneerlaw6.TieRoom': so many nodes, so many blocks: New, known, the law itself.
-/
section
namespace Go.Proofs.Ytdojencjbmahpaa
open Go.Rf
set_option maxRecDepth 100000
set_option linter.unusedVariables false
set_option linter.unusedSimpArgs false
/-! ref3.New -/
def rootR : List AV := [.int .i64 1, .int .i64 2, .int .i64 493, .int .i64 1, .int .i64 0, .sl 2 false [], .str ⟨#[]⟩, .sl 2 false []]
def CNw : List AV → Prop
  | [.int .i64 _, .int .i64 _] => True
  | _ => False
def gNw : List AV → AV
  | [.int _ a, .int _ b] => dA a b 2 [rootR]
  | _ => .junk
theorem isFun_7 : IsFun Try.prog 7 Try.f7 := ⟨Try.func7, by kernel_rfl, by kernel_rfl⟩
theorem v7 (a b : Int) (Φ : AV → Ent → Prop) : wFunC te nGE' Try.f7 [(.int .i64 a), (.int .i64 b)] [] (datFin Φ) = (Φ (dA a b 2 ([[(.int .i64 1), (.int .i64 2), (.int .i64 493), (.int .i64 1), (.int .i64 0), (.sl 2 false ([] : List (List AV))), (.str ⟨#[]⟩), (.sl 2 false ([] : List (List AV)))]])) .none) := by kernel_rfl
theorem fn7 : SpecSound Try.prog 7 (.fn CNw gNw) := dat_soundC te_ok nGE'_sound mixed isFun_7 (by
  rintro xs Φ ⟨hC, h⟩
  unfold CNw at hC
  split at hC
  · exact Eq.mpr (v7 ..) h
  · cases hC)
/-! tie.Make, of a node told whole -/
theorem isFun_10 : IsFun Try.prog 10 Try.f10 := ⟨Try.func10, by kernel_rfl, by kernel_rfl⟩
def GE10 : GE := fun f => match f with
  | 7 => some (.fn CNw gNw)
  | 8 => some (.fn CMake gMake)
  | 20 => some (.fn CIs3 gIs3)
  | _ => none
theorem GE10_sound : Sound Try.prog GE10 := by
  intro f sp h
  unfold GE10 at h
  split at h
  · cases h; exact fn7
  · cases h; exact fn8
  · cases h; exact fn20
  · cases h
theorem v10  (Φ : AV → Ent → Prop) : wFunC te GE10 Try.f10 [] [] (datFin Φ) = (CNw [(.int .i64 5), (.int .i64 1)] ∧ (CMake [(dA 5 1 2 ([rootR])), (.int .i64 1), (.str ⟨#[97]⟩), (.agg [(.int .i64 0), (.int .i64 1), (.int .i64 0), (.int .i64 0), (.int .i64 0), (.sl 2 false ([] : List (List AV))), (.str ⟨#[]⟩), (.sl 2 false ([] : List (List AV)))])] ∧ (CNw [(.int .i64 5), (.int .i64 2)] ∧ (CMake [(dA 5 2 2 ([rootR])), (.int .i64 1), (.str ⟨#[97]⟩), (.agg [(.int .i64 0), (.int .i64 1), (.int .i64 0), (.int .i64 0), (.int .i64 0), (.sl 2 false ([] : List (List AV))), (.str ⟨#[]⟩), (.sl 2 false ([] : List (List AV)))])] ∧ (ifB ((tieMake 5 1 2 [rootR] 1 ⟨#[97]⟩ [(.int .i64 0), (.int .i64 1), (.int .i64 0), (.int .i64 0), (.int .i64 0), (.sl 2 false ([] : List (List AV))), (.str ⟨#[]⟩), (.sl 2 false ([] : List (List AV)))]).2.2.2 == 8) (ifB ((tieMake 5 2 2 [rootR] 1 ⟨#[97]⟩ [(.int .i64 0), (.int .i64 1), (.int .i64 0), (.int .i64 0), (.int .i64 0), (.sl 2 false ([] : List (List AV))), (.str ⟨#[]⟩), (.sl 2 false ([] : List (List AV)))]).2.2.2 == 0) (ifB ((tieMake 5 2 2 [rootR] 1 ⟨#[97]⟩ [(.int .i64 0), (.int .i64 1), (.int .i64 0), (.int .i64 0), (.int .i64 0), (.sl 2 false ([] : List (List AV))), (.str ⟨#[]⟩), (.sl 2 false ([] : List (List AV)))]).2.2.1 == 2) (CIs3 [(dA 5 2 ((tieMake 5 2 2 [rootR] 1 ⟨#[97]⟩ [(.int .i64 0), (.int .i64 1), (.int .i64 0), (.int .i64 0), (.int .i64 0), (.sl 2 false ([] : List (List AV))), (.str ⟨#[]⟩), (.sl 2 false ([] : List (List AV)))]).1) ((tieMake 5 2 2 [rootR] 1 ⟨#[97]⟩ [(.int .i64 0), (.int .i64 1), (.int .i64 0), (.int .i64 0), (.int .i64 0), (.sl 2 false ([] : List (List AV))), (.str ⟨#[]⟩), (.sl 2 false ([] : List (List AV)))]).2.1))] ∧ (Φ (.bool (isD 5 2 (tieMake 5 2 2 [rootR] 1 ⟨#[97]⟩ [(.int .i64 0), (.int .i64 1), (.int .i64 0), (.int .i64 0), (.int .i64 0), (.sl 2 false ([] : List (List AV))), (.str ⟨#[]⟩), (.sl 2 false ([] : List (List AV)))]).1 (tieMake 5 2 2 [rootR] 1 ⟨#[97]⟩ [(.int .i64 0), (.int .i64 1), (.int .i64 0), (.int .i64 0), (.int .i64 0), (.sl 2 false ([] : List (List AV))), (.str ⟨#[]⟩), (.sl 2 false ([] : List (List AV)))]).2.1)) .none)) (Φ (.bool false) .none)) (Φ (.bool false) .none)) (Φ (.bool false) .none)))))) := by kernel_rfl
theorem blocks_nil : IsBlocks [] := ⟨by simp, by simp, by simp⟩
theorem names_nil : IsNames [] := ⟨by simp, by simp, by simp⟩
theorem root_ok : IsNodes [rootR] := ⟨fun e he => by simp at he; subst he; exact ⟨_, _, _, _, _, _, _, _, rfl, blocks_nil, names_nil⟩, by simp, by simp⟩
def kR : List AV := [.int .i64 0, .int .i64 1, .int .i64 0, .int .i64 0, .int .i64 0, .sl 2 false [], .str ⟨#[]⟩, .sl 2 false []]
theorem kR_ok : IsNode kR := ⟨_, _, _, _, _, _, _, _, rfl, blocks_nil, names_nil⟩
def kD : List (List AV) := [[.int .i64 1, .int .i64 2, .int .i64 493, .int .i64 1, .int .i64 0, .sl 2 false [], .str ⟨#[]⟩, .sl 2 false [[.str ⟨#[97]⟩, .int .i64 2]]], [.int .i64 2, .int .i64 1, .int .i64 0, .int .i64 1, .int .i64 0, .sl 2 false [], .str ⟨#[]⟩, .sl 2 false []]]
theorem kn1 : tieMake 5 1 2 [rootR] 1 ⟨#[97]⟩ kR = (2, [rootR], 0, 8) := by kernel_rfl
theorem kn2 : tieMake 5 2 2 [rootR] 1 ⟨#[97]⟩ kR = (3, kD, 2, 0) := by kernel_rfl
theorem kn3 : isD 5 2 3 kD = true := by kernel_rfl
theorem sh_nil : ShBlocks [] := ⟨by simp, by simp⟩
theorem shn_nil : ShNames [] := ⟨by simp, by simp⟩
theorem kn4 : ShNodes kD := by
  refine ⟨fun e he => ?_, by decide⟩
  simp only [kD, List.mem_cons, List.not_mem_nil, or_false] at he
  rcases he with rfl | rfl
  · refine ⟨_, _, _, _, _, _, _, _, rfl, sh_nil, ⟨fun e he => ?_, by decide⟩, by decide⟩
    simp only [List.mem_cons, List.not_mem_nil, or_false] at he
    subst he
    exact ⟨_, _, rfl, by decide⟩
  · exact ⟨_, _, _, _, _, _, _, _, rfl, sh_nil, shn_nil, by decide⟩
theorem kn5 : nmOf [rootR] 1 = [] := by kernel_rfl
theorem fn10 : SpecSound Try.prog 10 (.fn (fun xs => xs = []) (fun _ => .bool true)) := dat_soundC te_ok GE10_sound mixed isFun_10 (by
  rintro xs Φ ⟨rfl, h⟩
  refine Eq.mpr (v10 ..) ?_
  refine ⟨trivial, ⟨root_ok, kR_ok, by decide, by rw [kn5]; decide, by decide, by decide⟩, trivial, ⟨root_ok, kR_ok, by decide, by rw [kn5]; decide, by decide, by decide⟩, ?_⟩
  rw [show (tieMake 5 1 2 [rootR] 1 ⟨#[97]⟩ [.int .i64 0, .int .i64 1, .int .i64 0, .int .i64 0, .int .i64 0, .sl 2 false [], .str ⟨#[]⟩, .sl 2 false []]) = (2, [rootR], 0, 8) from kn1]
  rw [show (tieMake 5 2 2 [rootR] 1 ⟨#[97]⟩ [.int .i64 0, .int .i64 1, .int .i64 0, .int .i64 0, .int .i64 0, .sl 2 false [], .str ⟨#[]⟩, .sl 2 false []]) = (3, kD, 2, 0) from kn2]
  refine ifB_t (ifB_t (ifB_t ⟨kn4, ?_⟩))
  rw [kn3]
  exact h)
/-! TieRoom -/
theorem isFun_3 : IsFun Try.prog 3 Try.f3 := ⟨Try.func3, by kernel_rfl, by kernel_rfl⟩
def GE3 : GE := fun f => match f with
  | 7 => some (.fn CNw gNw)
  | 8 => some (.fn CMake gMake)
  | 9 => some (.fn CDkS (fun _ => .bool true))
  | 10 => some (.fn (fun xs => xs = []) (fun _ => .bool true))
  | 11 => some (.fn CTie gLink)
  | 12 => some (.fn CDk gUsed)
  | _ => none
theorem GE3_sound : Sound Try.prog GE3 := by
  intro f sp h
  unfold GE3 at h
  split at h
  · cases h; exact fn7
  · cases h; exact fn8
  · cases h; exact fn9
  · cases h; exact fn10
  · cases h; exact fn11
  · cases h; exact fn12
  · cases h
theorem v3 (i b n z : Int) (Φ : AV → Ent → Prop) : wFunC te GE3 Try.f3 [(.int .i64 i), (.int .i64 b), (.int .i64 n), (.int .i64 z)] [] (datFin Φ) = (ifB (!leI 1 i) (Φ (.bool true) .none) (ifB (!leI i 12) (Φ (.bool true) .none) (ifB (!leI 0 b) (Φ (.bool true) .none) (ifB (!leI b 12) (Φ (.bool true) .none) (ifB (!leI 1 n) (Φ (.bool true) .none) (ifB (!leI n 14) (Φ (.bool true) .none) (ifB (!leI 0 z) (Φ (.bool true) .none) (ifB (!leI z 4) (Φ (.bool true) .none) (CNw [(.int .i64 b), (.int .i64 i)] ∧ (wLoopC 0 (wCodeC te GE3 0 (bodyAt Try.f3 [false, false, false, false, true, false, true, true])) ⟨((.int .i64 i) :: ((.int .i64 b) :: ((.int .i64 n) :: ((.int .i64 z) :: (jk 4 ((.bool false) :: ((.ptr 0 0) :: ((.ptr 1 0) :: ((.int .i64 0) :: (jk 10 ((.int .i64 i) :: ((.bool (!leI 1 i)) :: ((.bool false) :: ((.int .i64 i) :: ((.bool (!leI i 12)) :: ((.bool (!leI i 12)) :: ((.bool false) :: ((.int .i64 b) :: ((.bool (!leI 0 b)) :: ((.bool (!leI 0 b)) :: ((.bool false) :: ((.int .i64 b) :: ((.bool (!leI b 12)) :: ((.bool (!leI b 12)) :: ((.bool false) :: ((.int .i64 n) :: ((.bool (!leI 1 n)) :: ((.bool (!leI 1 n)) :: ((.bool false) :: ((.int .i64 n) :: ((.bool (!leI n 14)) :: ((.bool (!leI n 14)) :: ((.bool false) :: ((.int .i64 z) :: ((.bool (!leI 0 z)) :: ((.bool (!leI 0 z)) :: ((.bool false) :: ((.int .i64 z) :: ((.bool (!leI z 4)) :: ((.bool (!leI z 4)) :: ((.int .i64 b) :: ((.int .i64 i) :: ((dA b i 2 ([rootR])) :: (jk 103 [])))))))))))))))))))))))))))))))))))))))))))), [(dV b i 2 ([rootR])), (.var [(.int .i64 0), (.sl 2 true ([] : List (List AV)))])]⟩ (blkQ 0 (seqQ (wCodeC te GE3 0 (bodyAt Try.f3 [false, false, false, false, false])) (endQ te Try.f3 (datFin Φ)))))))))))))) := by kernel_rfl
def t3 (i b n z j : Int) (v m : Nat) (es : List (List AV)) : St := ⟨((.int .i64 i) :: ((.int .i64 b) :: ((.int .i64 n) :: ((.int .i64 z) :: (jk 5 ((.ptr 0 0) :: ((.ptr 1 0) :: ((.int .i64 j) :: (jk 146 []))))))))), [(dV b i 2 ([rootR])), (.var [(.int .i64 0), (.own 2 v m)]), (.arr true v 2 none es)]⟩
def k3 : List Bool := [true, true, true, true, false, false, false, false, false, true, true, true, false, false, false, false, false, false, false, false, false, false, false, false, false, false, false, false, false, false, false, false, false, false, false, false, false, false, false, false, false, false, false, false, false, false, false, false, false, false, false, false, false, false, false, false, false, false, false, false, false, false, false, false, false, false, false, false, false, false, false, false, false, false, false, false, false, false, false, false, false, false, false, false, false, false, false, false, false, false, false, false, false, false, false, false, false, false, false, false, false, false, false, false, false, false, false, false, false, false, false, false, false, false, false, false, false, false, false, false, false, false, false, false, false, false, false, false, false, false, false, false, false, false, false, false, false, false, false, false, false, false, false, false, false, false, false, false, false, false, false, false, false, false, false, false, false, false]
theorem b3 (i b n z j : Int) (v m : Nat) (es : List (List AV)) (K : KontX) (Φ : AV → Ent → Prop) : wCodeC te GE3 0 (bodyAt Try.f3 [false, false, false, false, true, false, true, true]) (t3 i b n z j v m es) (maskK ((endQ te Try.f3 (datFin Φ)) .ret) k3 K) = (ifB (!leI z j) (((16 : Int) = (16 : Int) ∧ 0 ≤ (16 : Int) ∧ (16 : Int) * 1 ≤ 140737488355328) ∧ (((1 = 1 ∧ 1 = 1) ∧ (fits 2 2 [[(.int .i64 j), (.own 6 1 ((16 : Int)).toNat)]] = true ∧ v = v ∧ m = es.length ∧ room (es.length + 1) 32)) ∧ (K .normal ⟨((.int .i64 i) :: ((.int .i64 b) :: ((.int .i64 n) :: ((.int .i64 z) :: (jk 5 ((.ptr 0 0) :: ((.ptr 1 0) :: ((.int .i64 (IntKind.i64.wrap (j + 1))) :: (jk 146 []))))))))), [(dV b i 2 ([rootR])), (.var [(.int .i64 0), (.own 2 (v + 1) (es.length + 1))]), (.arr false (v + 1) 2 none (es ++ ([[(.int .i64 j), (.own 6 1 ((16 : Int)).toNat)]] : List (List AV)))), .none, .none, .none, (.arr true 1 1 none (List.replicate ((16 : Int)).toNat [(.int .u8 0)])), .none, (.arr false 1 2 none [[(.int .i64 j), (.own 6 1 ((16 : Int)).toNat)]])]⟩))) (K (.exit 0) (t3 i b n z j v m es))) := by kernel_rfl
def u3 (i b n z j : Int) (v m : Nat) (es : List (List AV)) : St := ⟨((.int .i64 i) :: ((.int .i64 b) :: ((.int .i64 n) :: ((.int .i64 z) :: (jk 5 ((.ptr 0 0) :: ((.ptr 1 0) :: (jk 147 [])))))))), [(dV b i 2 ([rootR])), (.var [(.int .i64 0), (.sl 2 false es)])]⟩
theorem e3 (i b n z j : Int) (v m : Nat) (es : List (List AV)) (Φ : AV → Ent → Prop) : wCodeC te GE3 0 (bodyAt Try.f3 [false, false, false, false, false]) (u3 i b n z j v m es) (endQ te Try.f3 (datFin Φ)) = (wLoopC 0 (wCodeC te GE3 0 (bodyAt Try.f3 [false, false, false, false, false, false, false, true, false, true, true])) ⟨((.int .i64 i) :: ((.int .i64 b) :: ((.int .i64 n) :: ((.int .i64 z) :: (jk 5 ((.ptr 0 0) :: ((.ptr 1 0) :: (jk 1 ((.int .i64 0) :: ((.int .i64 0) :: (jk 54 ((.int .i64 z) :: ((.int .i64 (IntKind.i64.wrap (16 * z))) :: ((.ptr 1 0) :: (jk 87 []))))))))))))))), [(dV b i 2 ([rootR])), (.var [(.int .i64 (IntKind.i64.wrap (16 * z))), (.sl 2 false es)])]⟩ (blkQ 2 (seqQ (wCodeC te GE3 0 (bodyAt Try.f3 [false, false, false, false, false, false, false, false])) (endQ te Try.f3 (datFin Φ))))) := by kernel_rfl
def t3_1 (i b n z y M j c : Int) (ds es : List (List AV)) : St := ⟨((.int .i64 i) :: ((.int .i64 b) :: ((.int .i64 n) :: ((.int .i64 z) :: (jk 5 ((.ptr 0 0) :: ((.ptr 1 0) :: (jk 1 ((.int .i64 M) :: ((.int .i64 j) :: (jk 144 []))))))))))), [(dV b i c ds), (.var [(.int .i64 y), (.sl 2 false es)])]⟩
def k3_1 : List Bool := [true, true, true, true, false, false, false, false, false, true, true, false, true, true, false, false, false, false, false, false, false, false, false, false, false, false, false, false, false, false, false, false, false, false, false, false, false, false, false, false, false, false, false, false, false, false, false, false, false, false, false, false, false, false, false, false, false, false, false, false, false, false, false, false, false, false, false, false, false, false, false, false, false, false, false, false, false, false, false, false, false, false, false, false, false, false, false, false, false, false, false, false, false, false, false, false, false, false, false, false, false, false, false, false, false, false, false, false, false, false, false, false, false, false, false, false, false, false, false, false, false, false, false, false, false, false, false, false, false, false, false, false, false, false, false, false, false, false, false, false, false, false, false, false, false, false, false, false, false, false, false, false, false, false, false, false, false, false]
theorem b3_1 (i b n z y M j c : Int) (ds es : List (List AV)) (K : KontX) (Φ : AV → Ent → Prop) : wCodeC te GE3 0 (bodyAt Try.f3 [false, false, false, false, false, false, false, true, false, true, true]) (t3_1 i b n z y M j c ds es) (cutK ((endQ te Try.f3 (datFin Φ)) .ret) k3_1 2 K) = (ifB (!leI n j) ((∀ e ∈ [[(.int .u8 (IntKind.u8.wrap (IntKind.i64.wrap (97 + j))))]], isByte e) ∧ (CMake [(dA b i c ds), (.int .i64 1), (.str (strOf [[(.int .u8 (IntKind.u8.wrap (IntKind.i64.wrap (97 + j))))]])), (.agg [(.int .i64 0), (.int .i64 1), (.int .i64 0), (.int .i64 0), (.int .i64 y), (.sl 2 false es), (.str ⟨#[]⟩), (.sl 2 false ([] : List (List AV)))])] ∧ (ifB (!leI i (IntKind.i64.wrap (M + 1))) (ifB (!(((tieMake b i c ds 1 (strOf [[(.int .u8 (IntKind.u8.wrap (IntKind.i64.wrap (97 + j))))]]) [(.int .i64 0), (.int .i64 1), (.int .i64 0), (.int .i64 0), (.int .i64 y), (.sl 2 false es), (.str ⟨#[]⟩), (.sl 2 false ([] : List (List AV)))]).2.2.2 == 0) == (leI (IntKind.i64.wrap ((IntKind.i64.wrap (M + 1)) * z)) b))) (Φ (.bool false) .none) (ifB (!(leI (IntKind.i64.wrap ((IntKind.i64.wrap (M + 1)) * z)) b)) (ifB ((tieMake b i c ds 1 (strOf [[(.int .u8 (IntKind.u8.wrap (IntKind.i64.wrap (97 + j))))]]) [(.int .i64 0), (.int .i64 1), (.int .i64 0), (.int .i64 0), (.int .i64 y), (.sl 2 false es), (.str ⟨#[]⟩), (.sl 2 false ([] : List (List AV)))]).2.2.2 != 8) (Φ (.bool false) .none) (CDkS [(dA b i ((tieMake b i c ds 1 (strOf [[(.int .u8 (IntKind.u8.wrap (IntKind.i64.wrap (97 + j))))]]) [(.int .i64 0), (.int .i64 1), (.int .i64 0), (.int .i64 0), (.int .i64 y), (.sl 2 false es), (.str ⟨#[]⟩), (.sl 2 false ([] : List (List AV)))]).1) ((tieMake b i c ds 1 (strOf [[(.int .u8 (IntKind.u8.wrap (IntKind.i64.wrap (97 + j))))]]) [(.int .i64 0), (.int .i64 1), (.int .i64 0), (.int .i64 0), (.int .i64 y), (.sl 2 false es), (.str ⟨#[]⟩), (.sl 2 false ([] : List (List AV)))]).2.1)), (dA b i c ds)] ∧ (ifB ((tieMake b i c ds 1 (strOf [[(.int .u8 (IntKind.u8.wrap (IntKind.i64.wrap (97 + j))))]]) [(.int .i64 0), (.int .i64 1), (.int .i64 0), (.int .i64 0), (.int .i64 y), (.sl 2 false es), (.str ⟨#[]⟩), (.sl 2 false ([] : List (List AV)))]).2.2.1 != 0) (Φ (.bool false) .none) (ifB (leI (IntKind.i64.wrap ((IntKind.i64.wrap (M + 1)) * z)) b) (K .normal (t3_1 i b n z y (IntKind.i64.wrap (M + 1)) (IntKind.i64.wrap (j + 1)) ((tieMake b i c ds 1 (strOf [[(.int .u8 (IntKind.u8.wrap (IntKind.i64.wrap (97 + j))))]]) [(.int .i64 0), (.int .i64 1), (.int .i64 0), (.int .i64 0), (.int .i64 y), (.sl 2 false es), (.str ⟨#[]⟩), (.sl 2 false ([] : List (List AV)))]).1) ((tieMake b i c ds 1 (strOf [[(.int .u8 (IntKind.u8.wrap (IntKind.i64.wrap (97 + j))))]]) [(.int .i64 0), (.int .i64 1), (.int .i64 0), (.int .i64 0), (.int .i64 y), (.sl 2 false es), (.str ⟨#[]⟩), (.sl 2 false ([] : List (List AV)))]).2.1) es)) (K .normal (t3_1 i b n z y M (IntKind.i64.wrap (j + 1)) c ds es)))))) (ifB (leI (IntKind.i64.wrap ((IntKind.i64.wrap (M + 1)) * z)) b) (K .normal (t3_1 i b n z y (IntKind.i64.wrap (M + 1)) (IntKind.i64.wrap (j + 1)) ((tieMake b i c ds 1 (strOf [[(.int .u8 (IntKind.u8.wrap (IntKind.i64.wrap (97 + j))))]]) [(.int .i64 0), (.int .i64 1), (.int .i64 0), (.int .i64 0), (.int .i64 y), (.sl 2 false es), (.str ⟨#[]⟩), (.sl 2 false ([] : List (List AV)))]).1) ((tieMake b i c ds 1 (strOf [[(.int .u8 (IntKind.u8.wrap (IntKind.i64.wrap (97 + j))))]]) [(.int .i64 0), (.int .i64 1), (.int .i64 0), (.int .i64 0), (.int .i64 y), (.sl 2 false es), (.str ⟨#[]⟩), (.sl 2 false ([] : List (List AV)))]).2.1) es)) (K .normal (t3_1 i b n z y M (IntKind.i64.wrap (j + 1)) c ds es))))) (ifB (!(((tieMake b i c ds 1 (strOf [[(.int .u8 (IntKind.u8.wrap (IntKind.i64.wrap (97 + j))))]]) [(.int .i64 0), (.int .i64 1), (.int .i64 0), (.int .i64 0), (.int .i64 y), (.sl 2 false es), (.str ⟨#[]⟩), (.sl 2 false ([] : List (List AV)))]).2.2.2 == 0) == false)) (Φ (.bool false) .none) (ifB ((tieMake b i c ds 1 (strOf [[(.int .u8 (IntKind.u8.wrap (IntKind.i64.wrap (97 + j))))]]) [(.int .i64 0), (.int .i64 1), (.int .i64 0), (.int .i64 0), (.int .i64 y), (.sl 2 false es), (.str ⟨#[]⟩), (.sl 2 false ([] : List (List AV)))]).2.2.2 != 8) (Φ (.bool false) .none) (CDkS [(dA b i ((tieMake b i c ds 1 (strOf [[(.int .u8 (IntKind.u8.wrap (IntKind.i64.wrap (97 + j))))]]) [(.int .i64 0), (.int .i64 1), (.int .i64 0), (.int .i64 0), (.int .i64 y), (.sl 2 false es), (.str ⟨#[]⟩), (.sl 2 false ([] : List (List AV)))]).1) ((tieMake b i c ds 1 (strOf [[(.int .u8 (IntKind.u8.wrap (IntKind.i64.wrap (97 + j))))]]) [(.int .i64 0), (.int .i64 1), (.int .i64 0), (.int .i64 0), (.int .i64 y), (.sl 2 false es), (.str ⟨#[]⟩), (.sl 2 false ([] : List (List AV)))]).2.1)), (dA b i c ds)] ∧ (ifB ((tieMake b i c ds 1 (strOf [[(.int .u8 (IntKind.u8.wrap (IntKind.i64.wrap (97 + j))))]]) [(.int .i64 0), (.int .i64 1), (.int .i64 0), (.int .i64 0), (.int .i64 y), (.sl 2 false es), (.str ⟨#[]⟩), (.sl 2 false ([] : List (List AV)))]).2.2.1 != 0) (Φ (.bool false) .none) (K .normal (t3_1 i b n z y M (IntKind.i64.wrap (j + 1)) c ds es))))))))) (K (.exit 2) (t3_1 i b n z y M j c ds es))) := by kernel_rfl
theorem e3_1 (i b n z y M j c : Int) (ds es : List (List AV)) (Φ : AV → Ent → Prop) : wCodeC te GE3 0 (bodyAt Try.f3 [false, false, false, false, false, false, false, false]) (t3_1 i b n z y M j c ds es) (endQ te Try.f3 (datFin Φ)) = (ifB (M == 0) ((fun xs => xs = []) ([] : List AV) ∧ (Φ (.bool true) .none)) (CTie [(dA b i c ds), (.int .i64 1), (.str ⟨#[122]⟩), (.int .i64 2)] ∧ (CDk [(dA b i c ((tieLink ds 1 ⟨#[122]⟩ 2).1))] ∧ (ifB ((tieLink ds 1 ⟨#[122]⟩ 2).2 == 0) (ifB ((usedR (tieLink ds 1 ⟨#[122]⟩ 2).1 : Int) == (IntKind.i64.wrap (M * z))) (ifB (((tieLink ds 1 ⟨#[122]⟩ 2).1.length : Int) == (IntKind.i64.wrap (M + 1))) ((fun xs => xs = []) ([] : List AV) ∧ (Φ (.bool true) .none)) (Φ (.bool false) .none)) (Φ (.bool false) .none)) (Φ (.bool false) .none))))) := by kernel_rfl
/-! What the law's disks are. -/
def ltr (j : Nat) : ByteArray := strOf [[.int .u8 (97 + (j : Int))]]
def esZ (z : Nat) : List (List AV) := (List.range z).map fun (k : Nat) => [.int .i64 (k : Int), .sl 1 false (List.replicate 16 [.int .u8 0])]
def nmsM (M : Nat) : List (List AV) := (List.range M).map fun (k : Nat) => [.str (ltr k), .int .i64 ((k : Int) + 2)]
def filM (y : Int) (es : List (List AV)) (k : Nat) : List AV := [.int .i64 ((k : Int) + 2), .int .i64 1, .int .i64 0, .int .i64 1, .int .i64 y, .sl 2 false es, .str ⟨#[]⟩, .sl 2 false []]
def rtM (M : Nat) : List AV := [.int .i64 1, .int .i64 2, .int .i64 493, .int .i64 1, .int .i64 0, .sl 2 false [], .str ⟨#[]⟩, .sl 2 false (nmsM M)]
def dM (y : Int) (es : List (List AV)) (M : Nat) : List (List AV) := rtM M :: (List.range M).map (filM y es)
def kN (y : Int) (es : List (List AV)) : List AV := [.int .i64 0, .int .i64 1, .int .i64 0, .int .i64 0, .int .i64 y, .sl 2 false es, .str ⟨#[]⟩, .sl 2 false []]
def chkM (z M : Nat) : Bool :=
  (usedR (dM (16 * (z : Int)) (esZ z) M) == M * z) && ((nmOf (dM (16 * (z : Int)) (esZ z) M) 1).length == M) &&
  ((List.range 14).all fun j => decide (j < M) || !fndN (nmOf (dM (16 * (z : Int)) (esZ z) M) 1) (ltr j)) &&
  (M == 0 || ((usedR (tieLink (dM (16 * (z : Int)) (esZ z) M) 1 ⟨#[122]⟩ 2).1 == M * z) && ((tieLink (dM (16 * (z : Int)) (esZ z) M) 1 ⟨#[122]⟩ 2).1.length == M + 1) && ((tieLink (dM (16 * (z : Int)) (esZ z) M) 1 ⟨#[122]⟩ 2).2 == 0)))
theorem chk_all : ((List.range 12).all fun M => (List.range 5).all fun z => chkM z M) = true := by kernel_rfl
theorem chk_at {z M : Nat} (hM : M < 12) (hz : z < 5) : chkM z M = true := by
  have h := chk_all
  rw [List.all_eq_true] at h
  have h2 := h M (List.mem_range.2 hM)
  rw [List.all_eq_true] at h2
  exact h2 z (List.mem_range.2 hz)
theorem dM_stepA (y : Int) (es : List (List AV)) : ∀ (M : Nat), M < 11 →
    putR (putR (dM y es M) (newN ((M : Int) + 2) (kN y es))) (rowNm (rowI (dM y es M) 1) (withN (nmOf (dM y es M) 1) (ltr M) ((M : Int) + 2))) = dM y es (M + 1)
  | 0, _ => by kernel_rfl
  | 1, _ => by kernel_rfl
  | 2, _ => by kernel_rfl
  | 3, _ => by kernel_rfl
  | 4, _ => by kernel_rfl
  | 5, _ => by kernel_rfl
  | 6, _ => by kernel_rfl
  | 7, _ => by kernel_rfl
  | 8, _ => by kernel_rfl
  | 9, _ => by kernel_rfl
  | 10, _ => by kernel_rfl
  | M + 11, h => by omega
theorem dM_step (y : Int) (es : List (List AV)) {M : Nat} (hM : M < 11) :
    putR (putR (dM y es M) (newN ((M : Int) + 2) (kN y es))) (rowNm (rowI (dM y es M) 1) (withN (nmOf (dM y es M) 1) (ltr M) ((M : Int) + 2))) = dM y es (M + 1) := dM_stepA y es M hM
theorem dM_nms (y : Int) (es : List (List AV)) : ∀ (M : Nat), M < 12 → (nmOf (dM y es M) 1).length = M
  | 0, _ => by kernel_rfl
  | 1, _ => by kernel_rfl
  | 2, _ => by kernel_rfl
  | 3, _ => by kernel_rfl
  | 4, _ => by kernel_rfl
  | 5, _ => by kernel_rfl
  | 6, _ => by kernel_rfl
  | 7, _ => by kernel_rfl
  | 8, _ => by kernel_rfl
  | 9, _ => by kernel_rfl
  | 10, _ => by kernel_rfl
  | 11, _ => by kernel_rfl
  | M + 12, h => by omega
theorem esZ_len (z : Nat) : (esZ z).length = z := by simp [esZ]
theorem esZ_ok {z : Nat} (hz : z < 5) : IsBlocks (esZ z) := by
  refine ⟨fun e he => ?_, ?_, by rw [esZ_len]; omega⟩
  · obtain ⟨k, hk, rfl⟩ := List.mem_map.1 he
    have := List.mem_range.1 hk
    exact ⟨_, _, rfl, by simp, fun x hx => by rw [List.eq_of_mem_replicate hx]; rfl, by omega, by omega⟩
  · unfold esZ
    rw [List.pairwise_map]
    refine List.pairwise_lt_range.imp fun h => ?_
    simp only [inI]
    omega
theorem kN_ok {y : Int} {es : List (List AV)} (h : IsBlocks es) : IsNode (kN y es) := ⟨_, _, _, _, _, _, _, _, rfl, h, names_nil⟩
theorem dM_len (y : Int) (es : List (List AV)) (M : Nat) : (dM y es M).length = M + 1 := by simp [dM]
theorem dM_ok {y : Int} {es : List (List AV)} (h : IsBlocks es) : ∀ {M : Nat}, M < 12 → IsNodes (dM y es M)
  | 0, _ => root_ok
  | M + 1, hM => by
    have ih := dM_ok (y := y) h (M := M) (by omega)
    have hl := dM_len y es M
    rw [← dM_step y es (by omega)]
    have h1 := putR_ok ih (isNode_new ((M : Int) + 2) (kN_ok (y := y) h)) (by omega)
    have h2 := putR_len (dM y es M) (newN ((M : Int) + 2) (kN y es))
    have hrow := isNode_row ih 1
    exact putR_ok h1 (isNode_nm hrow (withN_ok (node_names hrow) _ _ (by
      have := dM_nms y es M (by omega)
      unfold nmOf at this
      omega))) (by omega)
theorem dM_sz {y : Int} {es : List (List AV)} (h0 : 0 ≤ y) (h1 : y ≤ 100000) (M : Nat) : SzOK (dM y es M) := by
  intro r hr
  unfold dM at hr
  rcases List.mem_cons.1 hr with rfl | hr
  · exact ⟨show (0 : Int) ≤ 0 by decide, show (0 : Int) ≤ 100000 by decide⟩
  · obtain ⟨k, _, rfl⟩ := List.mem_map.1 hr
    exact ⟨h0, h1⟩
theorem link_ok {es : List (List AV)} (hn : IsNodes es) (up : Int) (s : ByteArray) (k : Int) (hl : es.length + 2 ≤ 1000000) (hnl : (nmOf es up).length < 1000000) : IsNodes (tieLink es up s k).1 := by
  have hrow := isNode_row hn up
  have hnms := node_names hrow
  unfold tieLink
  split
  · exact hn
  · have hlk := isNode_lk (isNode_row hn k) (IntKind.i64.wrap (nI (rowI es k) 3 + 1))
    have hput := putR_ok hn hlk (by omega)
    have hlen := putR_len es (rowLk (rowI es k) (IntKind.i64.wrap (nI (rowI es k) 3 + 1)))
    exact putR_ok hput (isNode_nm hrow (withN_ok hnms s k (by unfold nmOf at hnl; omega))) (by omega)
/-- What a making comes to. -/
theorem make_M {z M j : Nat} (hz : z < 5) (hM : M < 12) (hj : M ≤ j) (hj2 : j < 14) (i b : Int) :
    ((M : Int) + 1 < i ∧ ((M : Int) + 1) * z ≤ b → M = j → M < 11 → tieMake b i ((M : Int) + 2) (dM (16 * (z : Int)) (esZ z) M) 1 (ltr j) (kN (16 * (z : Int)) (esZ z)) = ((M : Int) + 3, dM (16 * (z : Int)) (esZ z) (M + 1), (M : Int) + 2, 0)) ∧
    (¬ ((M : Int) + 1 < i ∧ ((M : Int) + 1) * z ≤ b) → tieMake b i ((M : Int) + 2) (dM (16 * (z : Int)) (esZ z) M) 1 (ltr j) (kN (16 * (z : Int)) (esZ z)) = ((M : Int) + 2, dM (16 * (z : Int)) (esZ z) M, 0, 8)) := by
  have hc := chk_at hM hz
  unfold chkM at hc
  simp only [Bool.and_eq_true] at hc
  obtain ⟨⟨⟨c1, c2⟩, c3⟩, c4⟩ := hc
  rw [List.all_eq_true] at c3
  have c3' := c3 j (List.mem_range.2 hj2)
  have hf : ¬ fndN (nmOf (dM (16 * (z : Int)) (esZ z) M) 1) (ltr j) = true := by
    rw [decide_eq_false (by omega), Bool.false_or] at c3'
    simpa using c3'
  have hu : usedR (dM (16 * (z : Int)) (esZ z) M) = M * z := eq_of_beq c1
  have hs : (sI (kN (16 * (z : Int)) (esZ z)) 5).length = z := esZ_len z
  have hmul : ((M : Int) + 1) * (z : Int) = ((M * z : Nat) : Int) + (z : Int) := by
    rw [Int.add_mul, Int.one_mul]; simp
  unfold tieMake
  rw [if_neg hf, dM_len, hu, hs]
  rw [hmul]
  constructor
  · intro ⟨h1, h2⟩ hMj hM11
    subst hMj
    rw [if_neg (by omega), dM_step _ _ hM11]
    simp only [Prod.mk.injEq, and_true, true_and]
    omega
  · intro h
    rw [if_pos (by omega)]
def CTR : List AV → Prop
  | [.int .i64 _, .int .i64 _, .int .i64 _, .int .i64 _] => True
  | _ => False
theorem u8_ltr : ∀ j < 14, IntKind.u8.wrap (IntKind.i64.wrap (97 + ((j : Nat) : Int))) = 97 + (j : Int) := by decide
theorem by_ltr : ∀ j < 14, isByteB [.int .u8 (97 + ((j : Nat) : Int))] = true := by decide
theorem fn3 : SpecSound Try.prog 3 (.fn CTR (fun _ => .bool true)) := dat_soundC te_ok GE3_sound mixed isFun_3 (by
  rintro xs Φ ⟨hC, h⟩
  unfold CTR at hC
  split at hC
  · rename_i i b n z0
    have h' : Φ (.bool true) .none := h
    refine Eq.mpr (v3 ..) ?_
    refine ifB_both (fun _ => h') (fun x1 => ifB_both (fun _ => h') (fun x2 => ifB_both (fun _ => h') (fun x3 => ifB_both (fun _ => h') (fun x4 => ifB_both (fun _ => h') (fun x5 => ifB_both (fun _ => h') (fun x6 => ifB_both (fun _ => h') (fun x7 => ifB_both (fun _ => h') (fun x8 => ⟨trivial, ?_⟩))))))))
    have i1 := le_of_nleI x1
    have i2 := le_of_nleI x2
    have b1 := le_of_nleI x3
    have b2 := le_of_nleI x4
    have n1 := le_of_nleI x5
    have n2 := le_of_nleI x6
    have z1 := le_of_nleI x7
    have z2 := le_of_nleI x8
    obtain ⟨z, rfl⟩ : ∃ z : Nat, z0 = z := ⟨z0.toNat, by omega⟩
    obtain ⟨N, rfl⟩ : ∃ N : Nat, n = N := ⟨n.toNat, by omega⟩
    have hz : z < 5 := by omega
    have hN : N ≤ 14 := by omega
    clear x1 x2 x3 x4 x5 x6 x7 x8
    -- the blocks
    refine loopM _ rfl k3 (fun r st => ∃ (j v : Nat), j + r = z ∧ st = t3 i b N z j v j (esZ j)) ⟨z, _, ⟨0, 1, by omega, rfl⟩, ?_⟩ ?_
    · refine ReT.trans (reT_adoptV (T := _) (H := _) 1 1 2 2 rfl rfl (by omega)) ?_
      exact reT_to k3 3 rfl (by omega) rfl
    rintro r st ⟨j, v, hj, rfl⟩
    refine Eq.mpr (b3 ..) ?_
    refine ifB_both (fun c1 => ?_) (fun c1 => ?_)
    · have c1' := lt_of_nleI c1
      have hw : IntKind.i64.wrap ((j : Int) + 1) = ((j + 1 : Nat) : Int) := by rw [IntWalk.i64_in _ (by omega)]; omega
      have hlen := esZ_len j
      refine ⟨⟨rfl, by decide, by decide⟩, ⟨⟨rfl, rfl⟩, rfl, rfl, hlen.symm, by unfold room; omega⟩, ?_⟩
      rw [hw, hlen]
      refine rc_to (r - 1) (by omega) ⟨j + 1, v + 1, by omega, rfl⟩ ?_
      refine ReT.trans (reT_freezeLast (es := esZ j) (row := [.int .i64 j, .own 6 1 16]) (ds := List.replicate 16 [.int .u8 0]) 2 6 [.int .i64 j, .sl 1 false (List.replicate 16 [.int .u8 0])] (by omega) rfl rfl ?_ rfl ?_) ?_
      · intro e he
        obtain ⟨k, _, rfl⟩ := List.mem_map.1 he
        exact ⟨rfl, by simp [closed1]⟩
      · intro k x x' hx hx'
        match k with
        | 0 => simp at hx hx'; subst hx; subst hx'; exact .inl ⟨rfl, rfl⟩
        | 1 => simp at hx hx'; subst hx; subst hx'; exact .inr ⟨rfl, rfl⟩
        | k + 2 => simp at hx
      · have : esZ (j + 1) = esZ j ++ [[.int .i64 j, .sl 1 false (List.replicate 16 [.int .u8 0])]] := by
          unfold esZ
          rw [List.range_succ, List.map_append]
          rfl
        rw [this]
        exact reT_to k3 3 rfl (by omega) rfl
    have c1' := le_of_nleI c1
    have hjz : j = z := by omega
    subst hjz
    -- the file is data
    refine rc_exitTo (u3 i b N j j v j (esZ j)) ?_ ?_
    · refine ReT.trans (reT_freezeV (T := _) (H := _) 1 2 1 (es := esZ j) (v := v) (sz := 2) rfl (by rw [esZ_len]; rfl) rfl ?_) ?_
      · intro k a hk ha
        match k with
        | 0 => simp at ha; subst ha; rfl
        | 1 => exact absurd rfl hk
        | k + 2 => simp at ha
      · exact reT_to (k3.set 11 false) 2 rfl (by omega) rfl
    refine Eq.mpr (e3 ..) ?_
    have hy : IntKind.i64.wrap (16 * (j : Int)) = 16 * (j : Int) := IntWalk.i64_in _ (by omega)
    rw [hy]
    have hbk := esZ_ok hz
    -- the nodes
    refine loopC k3_1 2 (fun r st => ∃ (l M : Nat), l + r = N ∧ st = t3_1 i b N j (16 * (j : Int)) M l ((M : Int) + 2) (dM (16 * (j : Int)) (esZ j) M) (esZ j) ∧ M ≤ l ∧ (M : Int) < i ∧ (M < l → ¬ ((M : Int) + 1 < i ∧ ((M : Int) + 1) * j ≤ b))) (by omega)
      ⟨N, _, ⟨0, 0, by omega, rfl, by omega, by omega, by omega⟩, reT_to k3_1 2 rfl (by omega) rfl⟩ ?_
    rintro r st ⟨l, M, hl, rfl, hMl, hMi, hwell⟩
    have hM12 : M < 12 := by omega
    have hds := dM_ok (y := 16 * (j : Int)) hbk hM12
    have hdl := dM_len (16 * (j : Int)) (esZ j) M
    have hnm := dM_nms (16 * (j : Int)) (esZ j) M hM12
    refine Eq.mpr (b3_1 ..) ?_
    refine ifB_both (fun c2 => ?_) (fun c2 => ?_)
    · have c2' := lt_of_nleI c2
      have hl14 : l < 14 := by omega
      have hw : IntKind.i64.wrap ((l : Int) + 1) = ((l + 1 : Nat) : Int) := by rw [IntWalk.i64_in _ (by omega)]; omega
      have hwM : IntKind.i64.wrap ((M : Int) + 1) = ((M + 1 : Nat) : Int) := by rw [IntWalk.i64_in _ (by omega)]; omega
      have hjj : ((M + 1 : Nat) : Int) * (j : Int) ≤ 1000 := by
        have : (M + 1) * j ≤ 12 * 5 := Nat.mul_le_mul (by omega) (by omega)
        have h2 : ((M + 1 : Nat) : Int) * (j : Int) = (((M + 1) * j : Nat) : Int) := by simp
        omega
      have hjj0 : 0 ≤ ((M + 1 : Nat) : Int) * (j : Int) := Int.mul_nonneg (by omega) (by omega)
      have hwz : IntKind.i64.wrap (((M + 1 : Nat) : Int) * (j : Int)) = ((M : Int) + 1) * (j : Int) := by
        rw [IntWalk.i64_in _ (by omega)]; simp
      obtain ⟨m1, m2⟩ := make_M hz hM12 hMl hl14 i b
      have hu := u8_ltr l hl14
      rw [hw, hwM, hwz, hu]
      refine ⟨fun e he => ?_, ⟨hds, kN_ok hbk, by omega, by omega, by omega, by omega⟩, ?_⟩
      · simp at he
        subst he
        exact by_ltr l hl14
      have nx : ¬ ((M : Int) + 1 < i ∧ ((M : Int) + 1) * j ≤ b) → roundC 0 (fun r st => ∃ (l M : Nat), l + r = N ∧ st = t3_1 i b N j (16 * (j : Int)) M l ((M : Int) + 2) (dM (16 * (j : Int)) (esZ j) M) (esZ j) ∧ M ≤ l ∧ (M : Int) < i ∧ (M < l → ¬ ((M : Int) + 1 < i ∧ ((M : Int) + 1) * j ≤ b))) r
          (blkQ 2 (seqQ (wCodeC te GE3 0 (bodyAt Try.f3 [false, false, false, false, false, false, false, false])) (endQ te Try.f3 (datFin Φ)))) .normal (t3_1 i b N j (16 * (j : Int)) M ((l + 1 : Nat) : Int) ((M : Int) + 2) (dM (16 * (j : Int)) (esZ j) M) (esZ j)) := fun hh =>
        rc_next (r - 1) (by omega) ⟨l + 1, M, by omega, rfl, by omega, hMi, fun _ => hh⟩
      have hsame : CDkS [dA b i ((M : Int) + 2) (dM (16 * (j : Int)) (esZ j) M), dA b i ((M : Int) + 2) (dM (16 * (j : Int)) (esZ j) M)] := ⟨_, _, _, _, rfl, hds, dM_sz (by omega) (by omega) M⟩
      by_cases hwl : (M : Int) + 1 < i ∧ ((M : Int) + 1) * j ≤ b
      · have hMj : M = l := by
          rcases Nat.lt_or_ge M l with hh | hh
          · exact absurd hwl (hwell hh)
          · omega
        have hM11 : M < 11 := by omega
        have hm := m1 hwl hMj hM11
        unfold ltr kN at hm
        rw [hm]
        rw [leI_t hwl.2, leI_f (show i > ((M + 1 : Nat) : Int) by omega)]
        refine ifB_t (ifB_f (ifB_f (ifB_t ?_)))
        refine rc_next (r - 1) (by omega) ⟨l + 1, M + 1, by omega, ?_, by omega, by omega, fun hh => by omega⟩
        have : ((M : Int) + 3) = (((M + 1 : Nat) : Int) + 2) := by omega
        show t3_1 i b N j (16 * (j : Int)) ((M + 1 : Nat) : Int) ((l + 1 : Nat) : Int) ((M : Int) + 3) (dM (16 * (j : Int)) (esZ j) (M + 1)) (esZ j) = _
        rw [this]
      · have hm := m2 hwl
        unfold ltr kN at hm
        rw [hm]
        refine ifB_both (fun k1 => ?_) (fun k1 => ?_)
        · have k1' := lt_of_nleI k1
          have hb : b < ((M : Int) + 1) * (j : Int) := by
            have : ¬ ((M : Int) + 1) * (j : Int) ≤ b := fun hh => hwl ⟨by omega, hh⟩
            omega
          rw [leI_f hb]
          exact ifB_f (ifB_t (ifB_f ⟨hsame, ifB_f (ifB_f (nx hwl))⟩))
        · exact ifB_f (ifB_f ⟨hsame, ifB_f (nx hwl)⟩)
    · have c2' := le_of_nleI c2
      refine rc_exit ?_
      refine Eq.mpr (e3_1 ..) ?_
      have hc := chk_at hM12 hz
      unfold chkM at hc
      simp only [Bool.and_eq_true] at hc
      obtain ⟨⟨⟨_, _⟩, _⟩, c4⟩ := hc
      refine ifB_both (fun k1 => ⟨rfl, h'⟩) (fun k1 => ?_)
      have hM0 : (M == 0) = false := by have := ne_of_beq_false k1; simp; omega
      rw [hM0, Bool.false_or] at c4
      simp only [Bool.and_eq_true] at c4
      obtain ⟨⟨l1, l2⟩, l3⟩ := c4
      have hMz : M * j ≤ 12 * 5 := Nat.mul_le_mul (by omega) (by omega)
      have hwz : IntKind.i64.wrap ((M : Int) * (j : Int)) = ((M * j : Nat) : Int) := by
        have h2 : (M : Int) * (j : Int) = ((M * j : Nat) : Int) := by simp
        rw [h2, IntWalk.i64_in _ (by omega)]
      have hwM : IntKind.i64.wrap ((M : Int) + 1) = ((M + 1 : Nat) : Int) := by rw [IntWalk.i64_in _ (by omega)]; omega
      refine ⟨⟨hds, by omega, by omega⟩, link_ok hds 1 _ 2 (by omega) (by omega), ?_⟩
      rw [hwz, hwM, eq_of_beq l1, eq_of_beq l2, l3]
      refine ifB_t ?_
      refine ifB_beq' (ifB_beq' ⟨rfl, h'⟩)
  · cases hC)
end Go.Proofs.Ytdojencjbmahpaa
end
