/-
  'Rows.BranchRoCardSaid': for every operation that is handed in, the law 'veneerlaw8.BranchRo' returns true, and what is handed in reads as it did; proved over the given program's text by its formulas, its check of what is known by a run; the condition is the card's own: that Go's tables unicode/utf8.first and unicode/utf8.acceptRanges lie as the library's text lays them.
-/
import Derived.Test.YtdojencjbmahpaaGreatDoorCards
import Derived.Test.YtdojencjbmahpaaGreatDoorTie
import Derived.WalkKit
import Derived.ProofKit
import Derived.OpenShut
import Derived.Deep.DeepHandedRow
import Derived.Lib.LaidTab
import Derived.Test.YtdojencjbmahpaaGreatDoorGh
import Derived.Test.YtdojencjbmahpaaGreatDoorGd
namespace Go.Proofs.YtdojencjbmahpaaGreatDoor.branchRo
open Go.ChangeShapes Go.WideShapes Go.ChangeAt Go.RowKit Go.Rf
set_option linter.unusedVariables false
set_option maxRecDepth 100000

theorem own : ownKnob Tryz.prog.godebug = none := by kernel_rfl
theorem cells25 : Tryz.prog.cellsOf 25 = 7 := by kernel_rfl
theorem cells23 : Tryz.prog.cellsOf 23 = 1 := by kernel_rfl
theorem cells5 : Tryz.prog.cellsOf 5 = 1 := by kernel_rfl
theorem cells9 : Tryz.prog.cellsOf 9 = 1 := by kernel_rfl
theorem cells3 : Tryz.prog.cellsOf 3 = 1 := by kernel_rfl

/-- What is read of an operation. -/
theorem op_rd {H : Type} {enc : TypeId × Value → H} {W : World} {S : Nat → Prop} {ρ : Reg} (hS : ∀ k, k < W.heap.size → S k) {r : Reach} {b : Nat} {v : Value} {x : DataW H} {ps : List MemPlace} {sp : Nat → Bool}
    (hval : Value.okWide Tryz.prog W r b 25 v) (h : DataW.Trod enc Tryz.prog W 0 sp true 25 v x ps) :
    ∃ (k : Int) (p t : ByteArray) (m a n : Int) (d : List (List AV)), (∀ e ∈ d, isByte e) ∧ Rd W S ρ 0 (.agg [.int .i64 k, .str p, .str t, .int .i64 m, .int .i64 a, .int .i64 n, .sl 1 false d]) v := by
  unfold Value.okWide at hval
  rw [Tryz.underlying25] at hval
  obtain ⟨cs, rfl, hsz, _⟩ := hval
  rw [cells25] at hsz
  obtain ⟨fuel, hf⟩ := h
  obtain ⟨l⟩ := cs
  have hl : l.length = 7 := hsz
  match l, hl with
  | [c0, c1, c2, c3, c4, c5, c6], _ =>
    obtain ⟨xs, k, _, _, _, hxl, hfs⟩ := DataW.trod_struct Tryz.underlying25 hf
    have hlx : xs.length = 7 := hxl
    have q0 : DataW.trod enc Tryz.prog W 0 sp true k 3 [c0] = xs[0]? := by
      have h := hfs 0 { name := "Kind", type := 3, offset := 0, embedded := false, tag := "", pkgPath := "", byteOffset := 0 } rfl
      simp only [cells3] at h
      exact h
    have q1 : DataW.trod enc Tryz.prog W 0 sp true k 9 [c1] = xs[1]? := by
      have h := hfs 1 { name := "Path", type := 9, offset := 1, embedded := false, tag := "", pkgPath := "", byteOffset := 8 } rfl
      simp only [cells9] at h
      exact h
    have q2 : DataW.trod enc Tryz.prog W 0 sp true k 9 [c2] = xs[2]? := by
      have h := hfs 2 { name := "To", type := 9, offset := 2, embedded := false, tag := "", pkgPath := "", byteOffset := 24 } rfl
      simp only [cells9] at h
      exact h
    have q3 : DataW.trod enc Tryz.prog W 0 sp true k 3 [c3] = xs[3]? := by
      have h := hfs 3 { name := "Mode", type := 3, offset := 3, embedded := false, tag := "", pkgPath := "", byteOffset := 40 } rfl
      simp only [cells3] at h
      exact h
    have q4 : DataW.trod enc Tryz.prog W 0 sp true k 3 [c4] = xs[4]? := by
      have h := hfs 4 { name := "At", type := 3, offset := 4, embedded := false, tag := "", pkgPath := "", byteOffset := 48 } rfl
      simp only [cells3] at h
      exact h
    have q5 : DataW.trod enc Tryz.prog W 0 sp true k 3 [c5] = xs[5]? := by
      have h := hfs 5 { name := "N", type := 3, offset := 5, embedded := false, tag := "", pkgPath := "", byteOffset := 56 } rfl
      simp only [cells3] at h
      exact h
    have q6 : DataW.trod enc Tryz.prog W 0 sp true k 23 [c6] = xs[6]? := by
      have h := hfs 6 { name := "Data", type := 23, offset := 6, embedded := false, tag := "", pkgPath := "", byteOffset := 64 } rfl
      simp only [cells23] at h
      exact h
    obtain ⟨i0, e0, _, _⟩ := DataW.trod_int Tryz.underlying3 (q0.trans (List.getElem?_eq_getElem (show 0 < xs.length by omega)))
    obtain ⟨i3, e3, _, _⟩ := DataW.trod_int Tryz.underlying3 (q3.trans (List.getElem?_eq_getElem (show 3 < xs.length by omega)))
    obtain ⟨i4, e4, _, _⟩ := DataW.trod_int Tryz.underlying3 (q4.trans (List.getElem?_eq_getElem (show 4 < xs.length by omega)))
    obtain ⟨i5, e5, _, _⟩ := DataW.trod_int Tryz.underlying3 (q5.trans (List.getElem?_eq_getElem (show 5 < xs.length by omega)))
    simp only [List.cons.injEq, and_true] at e0 e3 e4 e5
    obtain ⟨_, ⟨s1, rfl⟩, o1, r1⟩ := good_str (S := S) (ρ := ρ) Tryz.underlying9 c1 _ k (q1.trans (List.getElem?_eq_getElem (show 1 < xs.length by omega)))
    obtain ⟨_, ⟨s2, rfl⟩, o2, r2⟩ := good_str (S := S) (ρ := ρ) Tryz.underlying9 c2 _ k (q2.trans (List.getElem?_eq_getElem (show 2 < xs.length by omega)))
    obtain ⟨o6, d, hd, r6⟩ := rd_slice1 (n := 0) (ρ := ρ) Tryz.underlying23 cells5 (q6.trans (List.getElem?_eq_getElem (show 6 < xs.length by omega))) hS (fun V D m h => good_u8 (ρ := ρ) Tryz.underlying5 V D m h)
    subst e0 e3 e4 e5
    refine ⟨i0, s1, s2, i3, i4, i5, d, bytes_of hd, ?_⟩
    refine .agg 0 _ [.int .i64 i0, c1, c2, .int .i64 i3, .int .i64 i4, .int .i64 i5, c6] rfl ?_ ?_
    · intro v hv
      simp only [List.mem_cons, List.mem_nil_iff, or_false] at hv
      rcases hv with rfl | rfl | rfl | rfl | rfl | rfl | rfl
      · rfl
      · exact o1
      · exact o2
      · rfl
      · rfl
      · rfl
      · exact o6
    · intro j a v ha hv
      rcases j with _ | _ | _ | _ | _ | _ | _ | j
      · simp at ha hv; subst ha; subst hv; exact .int _ _ _
      · simp at ha hv; subst ha; subst hv; exact r1
      · simp at ha hv; subst ha; subst hv; exact r2
      · simp at ha hv; subst ha; subst hv; exact .int _ _ _
      · simp at ha hv; subst ha; subst hv; exact .int _ _ _
      · simp at ha hv; subst ha; subst hv; exact .int _ _ _
      · simp at ha hv; subst ha; subst hv; exact r6
      · simp at ha

theorem contract (H : Type) (enc : TypeId × Value → H) (W : World) (base : Nat) (args : Array Value) (ds gs : List (DataW H)) (before : List MemPlace)
    (hval : ∀ (j : Nat) t v, Tryz.f8.params[j]? = some t → args[j]? = some v → Value.okWide Tryz.prog W .any base t v)
    (hW : DataW.Whole enc Tryz.prog Tryz.f8.params.toList Rows.branchRoSpec.vars false W args.toList ds gs before) :
    Calls Tryz.prog 8 args W fun e W' => ∃ v, e = .returned v ∧ Rows.branchRoSpec.post enc Tryz.prog Tryz.f8 false true false false W args v W' := by
  have hW' := hW
  obtain ⟨p, q, hA0, hV, rfl, hfz, hnd⟩ := hW
  have hA : DataW.TrodAll enc Tryz.prog W 0 (fun _ => true) true Tryz.f8.params.toList args.toList ds p := hA0
  rw [Tryz.params8] at hA hval
  obtain ⟨v0, vs0, d0, ds0, p0, q0, hargs, rfl, rfl, h0, r0⟩ := trodAll_cons hA
  obtain ⟨rfl, rfl, rfl⟩ := trodAll_nil r0
  obtain rfl : args = #[v0] := by cases args; simp_all
  obtain ⟨rfl, rfl⟩ := trodVars_none hV
  clear hA0
  simp only [List.append_nil] at hW'
  obtain ⟨k, p, t, m, a, n, d, c1, rd0⟩ := op_rd (S := fun k => k < W.heap.size) (ρ := fun _ => ⟨0, 0, 0, 0⟩) (fun _ h => h) (hval 0 25 v0 rfl rfl) h0
  have hargs : ArgsRd W (fun k => k < W.heap.size) (fun _ => ⟨0, 0, 0, 0⟩) 0 [.agg [.int .i64 k, .str p, .str t, .int .i64 m, .int .i64 a, .int .i64 n, .sl 1 false d]] #[v0] := by
    refine ⟨rfl, fun i x v hx hv => ?_⟩
    rcases i with _ | i
    · simp at hx hv; subst hx; subst hv; exact rd0
    · simp at hx
  have hlt : ∀ p ∈ p0, p.block < W.heap.size := fun p hp => hW'.lt p hp
  have hC : CLawO [.agg [.int .i64 k, .str p, .str t, .int .i64 m, .int .i64 a, .int .i64 n, .sl 1 false d]] := trivial
  refine (law_calls_any isFun_8 fn8 hC hargs).mono fun e W' ⟨he, hg⟩ => ?_
  subst he
  have hlay : laidOutB Tryz.prog = true := by kernel_rfl
  have hrec : Tryz.prog.readableRec 25 = true := by kernel_rfl
  have hrow : 25 < Tryz.prog.types.size := of_decide_eq_true (by kernel_rfl)
  exact ⟨_, rfl, post_of_old (pa := p0) (pv := []) hW' (fun _ _ _ => trodAll_cons_mk (shut_bool Tryz.underlying4 _) trodAll_mk0)
    (fun sp hsp => by
      have t0 := stays (sp' := sp) hlay hrec hrow h0 hg (fun p hp => hlt p hp) (fun p hp => hsp p hp)
      have := trodAll_cons_mk t0 trodAll_mk0
      rw [List.append_nil] at this
      exact this) (fun _ _ => rfl) (by simp)
    hg (ok_one (by kernel_rfl) rfl (okWide_bool_mk Tryz.underlying4 _))⟩
def wit : Value := Value.agg #[.int .i64 0, .string ⟨#[]⟩, .string ⟨#[]⟩, .int .i64 0, .int .i64 0, .int .i64 0, .slice none 0 0]
def witD {H : Type} : DataW H := .agg [.lit (.int .i64 0), .lit (.string []), .lit (.string []), .lit (.int .i64 0), .lit (.int .i64 0), .lit (.int .i64 0), .nil]
/-- A world for the witness: the tables as they are laid. -/
def firstCells : Array Value := (Go.Pinned.utf8FirstZ.map fun (n : Nat) => Value.int .u8 (Int.ofNat n)).toArray
def acceptCells : Array Value := ([128, 191, 160, 191, 128, 159, 144, 191, 128, 143, 0, 0, 0, 0, 0, 0, 0, 0, 0, 0, 0, 0, 0, 0, 0, 0, 0, 0, 0, 0, 0, 0].map fun (n : Nat) => Value.int .u8 (Int.ofNat n)).toArray
def laidObj (cs : Array Value) : Obj → Obj
  | .cells _ t frozen => .cells cs t frozen
  | o => o
noncomputable def laidWorld (os : Os) : World :=
  { World.holding Tryz.prog os ⟨#[], #[], []⟩ with heap := ((World.holding Tryz.prog os ⟨#[], #[], []⟩).heap.modify 1 (laidObj firstCells)).modify 2 (laidObj acceptCells) }
theorem laid_met (os : Os) : laidMet Tryz.prog Rows.branchRoRow.laid ((laidWorld os).forCall (fun _ _ => 0) ⟨#[], #[wit], []⟩).memory :=
  laidMet_of_run' 8 (by kernel_rfl) (by kernel_rfl)
theorem reads (os : Os) {H : Type} (enc : TypeId × Value → H) : ∃ places, DataW.whole enc Tryz.prog ((laidWorld os).forCall (fun _ _ => 0) ⟨#[], #[wit], []⟩).memory Tryz.f8.params.toList Rows.branchRoSpec.vars false #[wit].toList 8 = some ([witD], [], places) :=
  ⟨[], by kernel_rfl⟩

set_option maxRecDepth 100000 in
theorem lifted (os : Os) (started : os.Started) (H : Type) (enc : TypeId × Value → H) (F : Stop.Interp) :
    ReturnsInHanded {} Tryz.checked os 8 .any ((OpenSpec.ofChange Rows.branchRoSpec).preRow enc Tryz.prog Tryz.f8 Rows.branchRoRow.domain false Rows.branchRoRow.laid) (((OpenSpec.ofChange Rows.branchRoSpec).at F).post enc Tryz.prog Tryz.f8 false true false false) := by
  obtain ⟨places, hx⟩ := reads os enc
  refine returnsInHanded_of_row (C := Tryz.checked) (s := OpenSpec.ofChange Rows.branchRoSpec) own started (by kernel_rfl) Tryz.func8
    (witness_row_at (enc := enc) (C := Tryz.checked) false (laidWorld os) #[wit] rfl (by kernel_rfl) (by kernel_rfl) (by kernel_rfl)
      (OpenSpec.preRow_of_cond 8 hx (by kernel_rfl) (fun k hk => by cases hk) (by kernel_rfl) (laid_met os))) ?_
  intro W base args ds gs before hval hW _ _ _ hL _ _
  exact contract H enc W base args ds gs before hval hW

theorem said : Rows.BranchRoSaid :=
  OpenClaim.holds_of_cond 8 Tryz.f8 rfl rfl rfl rfl rfl rfl rfl ⟨rfl, rfl, rfl, rfl, rfl⟩ rfl rfl rfl rfl rfl (by kernel_rfl) Tryz.func8 (by kernel_rfl)
    (of_decide_eq_true (by kernel_rfl)) (by unfold Func.isWrapper; first | (rw [if_pos (by decide +kernel)]; kernel_rfl) | (rw [if_neg (by decide +kernel)]; exact ⟨rfl, rfl⟩))
    (fun os started H enc _ F => by rw [OpenClaim.pre_eq_preRow]; exact lifted os started H enc F)

/-- No parameter wants a stand-in; the program's own looks are off. -/
theorem plain (f : FuncId) (fn : Func) (hf : Tryz.pinned.checked.prog.funcNamed "veneer/veneerlaw8.BranchRo" = some f) (hfn : Tryz.pinned.checked.prog.funcs[f]? = some fn) :
    false = Tryz.pinned.checked.prog.looks [] ∧ ∀ (j : Nat) t, fn.params[j]? = some t → Tryz.pinned.checked.prog.wantsStandIn t = false := by
  obtain rfl : f = 8 := Option.some.inj ((show Tryz.prog.funcNamed "veneer/veneerlaw8.BranchRo" = some 8 by kernel_rfl).symm.trans hf) |>.symm
  obtain rfl : fn = Tryz.f8 := (Option.some.inj (Tryz.func8.symm.trans hfn)).symm
  refine ⟨by kernel_rfl, fun j t ht => ?_⟩
  rw [Tryz.params8] at ht
  obtain rfl : t = 25 := by simpa using Array.mem_of_getElem? ht
  exact (show Tryz.prog.wantsStandIn 25 = false by kernel_rfl)

theorem card : Rows.BranchRoCardSaid :=
  Claim7.holds_tied_plain_at .later [] _ _ _ _ said (fun _ h => by cases h) (by kernel_rfl) (fun _ h => by cases h) branchRo_row_tie rfl ⟨rfl, rfl⟩ (by kernel_rfl) rfl plain (by kernel_rfl)
#print axioms card
end Go.Proofs.YtdojencjbmahpaaGreatDoor.branchRo
namespace Go.Proofs.YtdojencjbmahpaaGreatDoor
theorem branchRo_card : Rows.BranchRoCardSaid := branchRo.card
end Go.Proofs.YtdojencjbmahpaaGreatDoor
