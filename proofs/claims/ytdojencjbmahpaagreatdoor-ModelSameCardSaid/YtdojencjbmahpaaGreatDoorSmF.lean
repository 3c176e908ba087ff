/-
  'Rows.ModelSameCardSaid': for every two replies that are handed in, the law 'veneerlaw22.ModelSame' returns true, and what is handed in reads as it did; proved over the given program's text by its formulas, its check of what is known by a run; the condition is the card's own: that Go's tables unicode/utf8.first and unicode/utf8.acceptRanges lie as the library's text lays them.
-/
import Derived.Test.YtdojencjbmahpaaGreatDoorCards
import Derived.Test.YtdojencjbmahpaaGreatDoorTie
import Derived.WalkKit
import Derived.ProofKit
import Derived.OpenShut
import Derived.Deep.DeepHandedRow
import Derived.Lib.LaidTab
import Derived.Test.YtdojencjbmahpaaGreatDoorSmE
import Derived.Test.YtdojencjbmahpaaGreatDoorRhM
namespace Go.Proofs.YtdojencjbmahpaaGreatDoor.modelSame
open Go.ChangeShapes Go.WideShapes Go.ChangeAt Go.RowKit Go.Rf
set_option linter.unusedVariables false
set_option maxRecDepth 100000

theorem own : ownKnob Tryz.prog.godebug = none := by kernel_rfl
theorem cells36 : Tryz.prog.cellsOf 36 = 7 := by kernel_rfl
theorem cells34 : Tryz.prog.cellsOf 34 = 5 := by kernel_rfl
theorem cells23 : Tryz.prog.cellsOf 23 = 1 := by kernel_rfl
theorem cells32 : Tryz.prog.cellsOf 32 = 1 := by kernel_rfl
theorem cells5 : Tryz.prog.cellsOf 5 = 1 := by kernel_rfl
theorem cells9 : Tryz.prog.cellsOf 9 = 1 := by kernel_rfl
theorem cells2 : Tryz.prog.cellsOf 2 = 1 := by kernel_rfl
theorem cells3 : Tryz.prog.cellsOf 3 = 1 := by kernel_rfl

/-- What is read of a reply. -/
theorem reply_rd {H : Type} {enc : TypeId × Value → H} {W : World} {S : Nat → Prop} {ρ : Reg} (hS : ∀ k, k < W.heap.size → S k) {r : Reach} {b : Nat} {v : Value} {x : DataW H} {ps : List MemPlace} {sp : Nat → Bool}
    (hval : Value.okWide Tryz.prog W r b 36 v) (h : DataW.Trod enc Tryz.prog W 0 sp true 36 v x ps) :
    ∃ (d n : List (List AV)) (i1 i2 i3 i4 i5 : Int), (∀ e ∈ d, isByte e) ∧ AllStr n ∧ Rd W S ρ 0 (.agg [.sl 1 false d, .sl 1 false n, .int .i64 i1, .int .i64 i2, .int .i64 i3, .int .i64 i4, .int .i64 i5]) v := by
  unfold Value.okWide at hval
  rw [Tryz.underlying36] at hval
  obtain ⟨cs, rfl, hsz, _⟩ := hval
  rw [cells36] at hsz
  obtain ⟨fuel, hf⟩ := h
  obtain ⟨l⟩ := cs
  have hl : l.length = 7 := hsz
  match l, hl with
  | [c0, c1, c2, c3, c4, c5, c6], _ =>
    obtain ⟨y0, y1, y2, m, _, _, g0, g1, g2⟩ := Deep.trod_struct3 Tryz.underlying36 hf
    have g0' : DataW.trod enc Tryz.prog W 0 sp true m 23 [c0] = some y0 := by
      have h := g0
      simp only [cells23] at h
      exact h
    have g1' : DataW.trod enc Tryz.prog W 0 sp true m 32 [c1] = some y1 := by
      have h := g1
      simp only [cells32] at h
      exact h
    have g2' : DataW.trod enc Tryz.prog W 0 sp true m 34 [c2, c3, c4, c5, c6] = some y2 := by
      have h := g2
      simp only [cells34] at h
      exact h
    obtain ⟨xs, k, _, _, _, hxl, hfs⟩ := DataW.trod_struct Tryz.underlying34 g2'
    have hlx : xs.length = 5 := hxl
    have q0 : DataW.trod enc Tryz.prog W 0 sp true k 2 [c2] = xs[0]? := by
      have h := hfs 0 { name := "Ino", type := 2, offset := 0, embedded := false, tag := "", pkgPath := "", byteOffset := 0 } rfl
      simp only [cells2] at h
      exact h
    have q1 : DataW.trod enc Tryz.prog W 0 sp true k 3 [c3] = xs[1]? := by
      have h := hfs 1 { name := "Kind", type := 3, offset := 1, embedded := false, tag := "", pkgPath := "", byteOffset := 8 } rfl
      simp only [cells3] at h
      exact h
    have q2 : DataW.trod enc Tryz.prog W 0 sp true k 3 [c4] = xs[2]? := by
      have h := hfs 2 { name := "Mode", type := 3, offset := 2, embedded := false, tag := "", pkgPath := "", byteOffset := 16 } rfl
      simp only [cells3] at h
      exact h
    have q3 : DataW.trod enc Tryz.prog W 0 sp true k 3 [c5] = xs[3]? := by
      have h := hfs 3 { name := "Links", type := 3, offset := 3, embedded := false, tag := "", pkgPath := "", byteOffset := 24 } rfl
      simp only [cells3] at h
      exact h
    have q4 : DataW.trod enc Tryz.prog W 0 sp true k 3 [c6] = xs[4]? := by
      have h := hfs 4 { name := "Size", type := 3, offset := 4, embedded := false, tag := "", pkgPath := "", byteOffset := 32 } rfl
      simp only [cells3] at h
      exact h
    obtain ⟨i1, e1, _, _⟩ := DataW.trod_int Tryz.underlying2 (q0.trans (List.getElem?_eq_getElem (show 0 < xs.length by omega)))
    obtain ⟨i2, e2, _, _⟩ := DataW.trod_int Tryz.underlying3 (q1.trans (List.getElem?_eq_getElem (show 1 < xs.length by omega)))
    obtain ⟨i3, e3, _, _⟩ := DataW.trod_int Tryz.underlying3 (q2.trans (List.getElem?_eq_getElem (show 2 < xs.length by omega)))
    obtain ⟨i4, e4, _, _⟩ := DataW.trod_int Tryz.underlying3 (q3.trans (List.getElem?_eq_getElem (show 3 < xs.length by omega)))
    obtain ⟨i5, e5, _, _⟩ := DataW.trod_int Tryz.underlying3 (q4.trans (List.getElem?_eq_getElem (show 4 < xs.length by omega)))
    simp only [List.cons.injEq, and_true] at e1 e2 e3 e4 e5
    obtain ⟨o0, d, hd, r0⟩ := rd_slice1 (n := 0) (ρ := ρ) Tryz.underlying23 cells5 g0' hS (fun V D m h => good_u8 (ρ := ρ) Tryz.underlying5 V D m h)
    obtain ⟨o1, n, hn, r1⟩ := rd_slice1 (n := 0) (ρ := ρ) Tryz.underlying32 cells9 g1' hS (fun V D m h => good_str (ρ := ρ) Tryz.underlying9 V D m h)
    subst e1 e2 e3 e4 e5
    refine ⟨d, n, i1, i2, i3, i4, i5, bytes_of hd, ?_, ?_⟩
    · intro e he
      obtain ⟨a, rfl, s, rfl⟩ := hn e he
      exact ⟨s, rfl⟩
    · refine .agg 0 _ [c0, c1, .int .i64 i1, .int .i64 i2, .int .i64 i3, .int .i64 i4, .int .i64 i5] rfl ?_ ?_
      · intro v hv
        simp only [List.mem_cons, List.mem_nil_iff, or_false] at hv
        rcases hv with rfl | rfl | rfl | rfl | rfl | rfl | rfl
        · exact o0
        · exact o1
        all_goals rfl
      · intro j a v ha hv
        rcases j with _ | _ | _ | _ | _ | _ | _ | j
        · simp at ha hv; subst ha; subst hv; exact r0
        · simp at ha hv; subst ha; subst hv; exact r1
        · simp at ha hv; subst ha; subst hv; exact .int _ _ _
        · simp at ha hv; subst ha; subst hv; exact .int _ _ _
        · simp at ha hv; subst ha; subst hv; exact .int _ _ _
        · simp at ha hv; subst ha; subst hv; exact .int _ _ _
        · simp at ha hv; subst ha; subst hv; exact .int _ _ _
        · simp at ha

theorem contract (H : Type) (enc : TypeId × Value → H) (W : World) (base : Nat) (args : Array Value) (ds gs : List (DataW H)) (before : List MemPlace)
    (hval : ∀ (j : Nat) t v, Tryz.f12.params[j]? = some t → args[j]? = some v → Value.okWide Tryz.prog W .any base t v)
    (hW : DataW.Whole enc Tryz.prog Tryz.f12.params.toList Rows.modelSameSpec.vars false W args.toList ds gs before) :
    Calls Tryz.prog 12 args W fun e W' => ∃ v, e = .returned v ∧ Rows.modelSameSpec.post enc Tryz.prog Tryz.f12 false true false false W args v W' := by
  have hW' := hW
  obtain ⟨p, q, hA0, hV, rfl, hfz, hnd⟩ := hW
  have hA : DataW.TrodAll enc Tryz.prog W 0 (fun _ => true) true Tryz.f12.params.toList args.toList ds p := hA0
  rw [Tryz.params12] at hA hval
  obtain ⟨v0, vs0, d0, ds0, p0, q0, hargs, rfl, rfl, h0, r0⟩ := trodAll_cons hA
  obtain ⟨v1, vs1, d1, ds1, p1, q1, hargs1, rfl, rfl, h1, r1⟩ := trodAll_cons r0
  obtain ⟨rfl, rfl, rfl⟩ := trodAll_nil r1
  subst hargs1
  obtain rfl : args = #[v0, v1] := by cases args; simp_all
  obtain ⟨rfl, rfl⟩ := trodVars_none hV
  clear hA0
  simp only [List.append_nil] at hW'
  obtain ⟨d, n, i1, i2, i3, i4, i5, c1, c3, rd0⟩ := reply_rd (S := fun k => k < W.heap.size) (ρ := fun _ => ⟨0, 0, 0, 0⟩) (fun _ h => h) (hval 0 36 v0 rfl rfl) h0
  obtain ⟨d', n', j1, j2, j3, j4, j5, c2, c4, rd1⟩ := reply_rd (S := fun k => k < W.heap.size) (ρ := fun _ => ⟨0, 0, 0, 0⟩) (fun _ h => h) (hval 1 36 v1 rfl rfl) h1
  have hargs : ArgsRd W (fun k => k < W.heap.size) (fun _ => ⟨0, 0, 0, 0⟩) 0 [.agg [.sl 1 false d, .sl 1 false n, .int .i64 i1, .int .i64 i2, .int .i64 i3, .int .i64 i4, .int .i64 i5], .agg [.sl 1 false d', .sl 1 false n', .int .i64 j1, .int .i64 j2, .int .i64 j3, .int .i64 j4, .int .i64 j5]] #[v0, v1] := by
    refine ⟨rfl, fun i x v hx hv => ?_⟩
    rcases i with _ | _ | i
    · simp at hx hv; subst hx; subst hv; exact rd0
    · simp at hx hv; subst hx; subst hv; exact rd1
    · simp at hx
  have hlt : ∀ p ∈ p0 ++ p1, p.block < W.heap.size := fun p hp => hW'.lt p hp
  have hC : C12 [.agg [.sl 1 false d, .sl 1 false n, .int .i64 i1, .int .i64 i2, .int .i64 i3, .int .i64 i4, .int .i64 i5], .agg [.sl 1 false d', .sl 1 false n', .int .i64 j1, .int .i64 j2, .int .i64 j3, .int .i64 j4, .int .i64 j5]] := ⟨c1, c2, c3, c4⟩
  refine (law_calls_any isFun_12 fn12 hC hargs).mono fun e W' ⟨he, hg⟩ => ?_
  subst he
  have hlay : laidOutB Tryz.prog = true := by kernel_rfl
  have hrec : Tryz.prog.readableRec 36 = true := by kernel_rfl
  have hrow : 36 < Tryz.prog.types.size := of_decide_eq_true (by kernel_rfl)
  exact ⟨_, rfl, post_of_old (pa := p0 ++ p1) (pv := []) hW' (fun _ _ _ => trodAll_cons_mk (shut_bool Tryz.underlying4 _) trodAll_mk0)
    (fun sp hsp => by
      have t0 := stays (sp' := sp) hlay hrec hrow h0 hg (fun p hp => hlt p (List.mem_append_left _ hp)) (fun p hp => hsp p (List.mem_append_left _ hp))
      have t1 := stays (sp' := sp) hlay hrec hrow h1 hg (fun p hp => hlt p (List.mem_append_right _ hp)) (fun p hp => hsp p (List.mem_append_right _ hp))
      have := trodAll_cons_mk t0 (trodAll_cons_mk t1 trodAll_mk0)
      rw [List.append_nil] at this
      exact this) (fun _ _ => rfl) (by simp)
    hg (ok_one (by kernel_rfl) rfl (okWide_bool_mk Tryz.underlying4 _))⟩
def wit : Value := Value.agg #[.slice none 0 0, .slice none 0 0, .int .i64 0, .int .i64 0, .int .i64 0, .int .i64 0, .int .i64 0]
def witD {H : Type} : DataW H := .agg [.nil, .nil, .agg [.lit (.int .i64 0), .lit (.int .i64 0), .lit (.int .i64 0), .lit (.int .i64 0), .lit (.int .i64 0)]]
/-- A world for the witness: the tables as they are laid. -/
def firstCells : Array Value := (Go.Pinned.utf8FirstZ.map fun (n : Nat) => Value.int .u8 (Int.ofNat n)).toArray
def acceptCells : Array Value := ([128, 191, 160, 191, 128, 159, 144, 191, 128, 143, 0, 0, 0, 0, 0, 0, 0, 0, 0, 0, 0, 0, 0, 0, 0, 0, 0, 0, 0, 0, 0, 0].map fun (n : Nat) => Value.int .u8 (Int.ofNat n)).toArray
def laidObj (cs : Array Value) : Obj → Obj
  | .cells _ t frozen => .cells cs t frozen
  | o => o
noncomputable def laidWorld (os : Os) : World :=
  { World.holding Tryz.prog os ⟨#[], #[], []⟩ with heap := ((World.holding Tryz.prog os ⟨#[], #[], []⟩).heap.modify 1 (laidObj firstCells)).modify 2 (laidObj acceptCells) }
theorem laid_met (os : Os) : laidMet Tryz.prog Rows.modelSameRow.laid ((laidWorld os).forCall (fun _ _ => 0) ⟨#[], #[wit, wit], []⟩).memory :=
  laidMet_of_run' 8 (by kernel_rfl) (by kernel_rfl)
theorem reads (os : Os) {H : Type} (enc : TypeId × Value → H) : ∃ places, DataW.whole enc Tryz.prog ((laidWorld os).forCall (fun _ _ => 0) ⟨#[], #[wit, wit], []⟩).memory Tryz.f12.params.toList Rows.modelSameSpec.vars false #[wit, wit].toList 8 = some ([witD, witD], [], places) :=
  ⟨[], by kernel_rfl⟩

set_option maxRecDepth 100000 in
theorem lifted (os : Os) (started : os.Started) (H : Type) (enc : TypeId × Value → H) (F : Stop.Interp) :
    ReturnsInHanded {} Tryz.checked os 12 .any ((OpenSpec.ofChange Rows.modelSameSpec).preRow enc Tryz.prog Tryz.f12 Rows.modelSameRow.domain false Rows.modelSameRow.laid) (((OpenSpec.ofChange Rows.modelSameSpec).at F).post enc Tryz.prog Tryz.f12 false true false false) := by
  obtain ⟨places, hx⟩ := reads os enc
  refine returnsInHanded_of_row (C := Tryz.checked) (s := OpenSpec.ofChange Rows.modelSameSpec) own started (by kernel_rfl) Tryz.func12
    (witness_row_at (enc := enc) (C := Tryz.checked) false (laidWorld os) #[wit, wit] rfl (by kernel_rfl) (by kernel_rfl) (by kernel_rfl)
      (OpenSpec.preRow_of_cond 8 hx (by kernel_rfl) (fun k hk => by cases hk) (by kernel_rfl) (laid_met os))) ?_
  intro W base args ds gs before hval hW _ _ _ hL _ _
  exact contract H enc W base args ds gs before hval hW

theorem said : Rows.ModelSameSaid :=
  OpenClaim.holds_of_cond 12 Tryz.f12 rfl rfl rfl rfl rfl rfl rfl ⟨rfl, rfl, rfl, rfl, rfl⟩ rfl rfl rfl rfl rfl (by kernel_rfl) Tryz.func12 (by kernel_rfl)
    (of_decide_eq_true (by kernel_rfl)) (by unfold Func.isWrapper; first | (rw [if_pos (by decide +kernel)]; kernel_rfl) | (rw [if_neg (by decide +kernel)]; exact ⟨rfl, rfl⟩))
    (fun os started H enc _ F => by rw [OpenClaim.pre_eq_preRow]; exact lifted os started H enc F)

/-- No parameter wants a stand-in; the program's own looks are off. -/
theorem plain (f : FuncId) (fn : Func) (hf : Tryz.pinned.checked.prog.funcNamed "veneer/veneerlaw22.ModelSame" = some f) (hfn : Tryz.pinned.checked.prog.funcs[f]? = some fn) :
    false = Tryz.pinned.checked.prog.looks [] ∧ ∀ (j : Nat) t, fn.params[j]? = some t → Tryz.pinned.checked.prog.wantsStandIn t = false := by
  obtain rfl : f = 12 := Option.some.inj ((show Tryz.prog.funcNamed "veneer/veneerlaw22.ModelSame" = some 12 by kernel_rfl).symm.trans hf) |>.symm
  obtain rfl : fn = Tryz.f12 := (Option.some.inj (Tryz.func12.symm.trans hfn)).symm
  refine ⟨by kernel_rfl, fun j t ht => ?_⟩
  rw [Tryz.params12] at ht
  obtain rfl : t = 36 := by simpa using Array.mem_of_getElem? ht
  exact (show Tryz.prog.wantsStandIn 36 = false by kernel_rfl)

theorem card : Rows.ModelSameCardSaid :=
  Claim7.holds_tied_plain_at .later [] _ _ _ _ said (fun _ h => by cases h) (by kernel_rfl) (fun _ h => by cases h) modelSame_row_tie rfl ⟨rfl, rfl⟩ (by kernel_rfl) rfl plain (by kernel_rfl)
#print axioms card
end Go.Proofs.YtdojencjbmahpaaGreatDoor.modelSame
namespace Go.Proofs.YtdojencjbmahpaaGreatDoor
theorem modelSame_card : Rows.ModelSameCardSaid := modelSame.card
end Go.Proofs.YtdojencjbmahpaaGreatDoor
