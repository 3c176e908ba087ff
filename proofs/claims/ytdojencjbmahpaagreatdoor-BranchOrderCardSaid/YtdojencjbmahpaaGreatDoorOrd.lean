/-
  'veneerlaw8.BranchOrder': its disk, and that it runs.
-/
import Derived.Test.YtdojencjbmahpaaGreatDoorKn
import Derived.Test.YtdojencjbmahpaaGreatDoorRhL
namespace Go.Proofs.YtdojencjbmahpaaGreatDoor
open Go.Rf
set_option maxRecDepth 100000
def opv (k : Int) (p t : List UInt8) : List AV := [.int .i64 k, .str ⟨⟨p⟩⟩, .str ⟨⟨t⟩⟩, .int .i64 0, .int .i64 0, .int .i64 0, .sl 1 false []]
def nmv (s : List UInt8) (i : Int) : List AV := [.str ⟨⟨s⟩⟩, .int .i64 i]
def ndv (i k m : Int) (t : List UInt8) (names : List (List AV)) : List AV := [.int .i64 i, .int .i64 k, .int .i64 m, .int .i64 1, .int .i64 0, .sl 2 false [], .str ⟨⟨t⟩⟩, .sl 2 false names]
def dskv (n : Int) (nodes : List (List AV)) : AV := .agg [.int .i64 9, .int .i64 9, .int .i64 n, .sl 8 false nodes]
def disk0 : AV := dskv 2 [ndv 1 2 493 [] []]
def disk5 : AV := dskv 7 [ndv 1 2 493 [] [nmv [100] 2, nmv [101] 4, nmv [115] 5], ndv 2 2 0 [] [nmv [102] 3, nmv [103] 6], ndv 3 1 0 [] [], ndv 4 2 0 [] [], ndv 5 3 0 [116] [], ndv 6 2 0 [] []]
def ops5 : AV := .sl 7 false [opv 2 [47, 100] [], opv 1 [47, 100, 47, 102] [], opv 2 [47, 101] [], opv 13 [47, 115] [116], opv 2 [47, 100, 47, 103] []]
theorem run5 : fDat te (X 40) 400 Tryz.f26 [disk0, ops5] = some (disk5, .none) := by kernel_rfl
theorem run5_sound : SpecSound Tryz.prog 26 (XS.spec (.dat (memo [disk0, ops5] disk5))) := memo_sound (fDat_sound te_ok (X_sound 40) mixed isFun_26 stat_26 400) run5
noncomputable def XO : XE := withOne 26 (.dat (memo [disk0, ops5] disk5)) XL
theorem XO_sound : Sound Tryz.prog XO.env := withOne_sound run5_sound XL_sound
noncomputable def gOrder : List AV → Option (AV × Ent) := fDat te XO 400 Tryz.f7
theorem isFun_7 : IsFun Tryz.prog 7 Tryz.f7 := ⟨Tryz.func7, by kernel_rfl, by kernel_rfl⟩
theorem stat_7 : codeStat (Tryz.f7.body.getD .skip) = true := by kernel_rfl
theorem order_sound : SpecSound Tryz.prog 7 (XS.spec (.dat gOrder)) := fDat_sound te_ok XO_sound mixed isFun_7 stat_7 400
theorem order_neg1 : gOrder [.int .i64 (Int.negSucc 0)] = some (.bool true, .none) := by kernel_rfl
theorem order_neg (k : Nat) : gOrder [.int .i64 (Int.negSucc k.succ)] = some (.bool true, .none) := by kernel_rfl
theorem order_0 : gOrder [.int .i64 (Int.ofNat 0)] = some (.bool true, .none) := by kernel_rfl
theorem order_1 : gOrder [.int .i64 (Int.ofNat 1)] = some (.bool true, .none) := by kernel_rfl
theorem order_2 : gOrder [.int .i64 (Int.ofNat 2)] = some (.bool true, .none) := by kernel_rfl
theorem order_3 : gOrder [.int .i64 (Int.ofNat 3)] = some (.bool true, .none) := by kernel_rfl
theorem order_4 : gOrder [.int .i64 (Int.ofNat 4)] = some (.bool true, .none) := by kernel_rfl
theorem order_5 : gOrder [.int .i64 (Int.ofNat 5)] = some (.bool true, .none) := by kernel_rfl
theorem order_6 : gOrder [.int .i64 (Int.ofNat 6)] = some (.bool true, .none) := by kernel_rfl
theorem order_7 : gOrder [.int .i64 (Int.ofNat 7)] = some (.bool true, .none) := by kernel_rfl
theorem order_8 : gOrder [.int .i64 (Int.ofNat 8)] = some (.bool true, .none) := by kernel_rfl
theorem order_9 : gOrder [.int .i64 (Int.ofNat 9)] = some (.bool true, .none) := by kernel_rfl
theorem order_10 : gOrder [.int .i64 (Int.ofNat 10)] = some (.bool true, .none) := by kernel_rfl
theorem order_11 : gOrder [.int .i64 (Int.ofNat 11)] = some (.bool true, .none) := by kernel_rfl
theorem order_12 : gOrder [.int .i64 (Int.ofNat 12)] = some (.bool true, .none) := by kernel_rfl
theorem order_13 : gOrder [.int .i64 (Int.ofNat 13)] = some (.bool true, .none) := by kernel_rfl
theorem order_14 : gOrder [.int .i64 (Int.ofNat 14)] = some (.bool true, .none) := by kernel_rfl
theorem order_15 : gOrder [.int .i64 (Int.ofNat 15)] = some (.bool true, .none) := by kernel_rfl
theorem order_16 : gOrder [.int .i64 (Int.ofNat 16)] = some (.bool true, .none) := by kernel_rfl
theorem order_17 : gOrder [.int .i64 (Int.ofNat 17)] = some (.bool true, .none) := by kernel_rfl
theorem order_18 : gOrder [.int .i64 (Int.ofNat 18)] = some (.bool true, .none) := by kernel_rfl
theorem order_19 : gOrder [.int .i64 (Int.ofNat 19)] = some (.bool true, .none) := by kernel_rfl
theorem order_20 : gOrder [.int .i64 (Int.ofNat 20)] = some (.bool true, .none) := by kernel_rfl
theorem order_21 : gOrder [.int .i64 (Int.ofNat 21)] = some (.bool true, .none) := by kernel_rfl
theorem order_22 : gOrder [.int .i64 (Int.ofNat 22)] = some (.bool true, .none) := by kernel_rfl
theorem order_23 : gOrder [.int .i64 (Int.ofNat 23)] = some (.bool true, .none) := by kernel_rfl
theorem order_24 : gOrder [.int .i64 (Int.ofNat 24)] = some (.bool true, .none) := by kernel_rfl
theorem order_25 : gOrder [.int .i64 (Int.ofNat 25)] = some (.bool true, .none) := by kernel_rfl
theorem order_26 : gOrder [.int .i64 (Int.ofNat 26)] = some (.bool true, .none) := by kernel_rfl
theorem order_big (k : Nat) : gOrder [.int .i64 (Int.ofNat k.succ.succ.succ.succ.succ.succ.succ.succ.succ.succ.succ.succ.succ.succ.succ.succ.succ.succ.succ.succ.succ.succ.succ.succ.succ.succ.succ)] = some (.bool true, .none) := by kernel_rfl
theorem order_run : ∀ n : Int, gOrder [.int .i64 n] = some (.bool true, .none)
  | .negSucc 0 => order_neg1
  | .negSucc (k + 1) => order_neg k
  | .ofNat 0 => order_0
  | .ofNat 1 => order_1
  | .ofNat 2 => order_2
  | .ofNat 3 => order_3
  | .ofNat 4 => order_4
  | .ofNat 5 => order_5
  | .ofNat 6 => order_6
  | .ofNat 7 => order_7
  | .ofNat 8 => order_8
  | .ofNat 9 => order_9
  | .ofNat 10 => order_10
  | .ofNat 11 => order_11
  | .ofNat 12 => order_12
  | .ofNat 13 => order_13
  | .ofNat 14 => order_14
  | .ofNat 15 => order_15
  | .ofNat 16 => order_16
  | .ofNat 17 => order_17
  | .ofNat 18 => order_18
  | .ofNat 19 => order_19
  | .ofNat 20 => order_20
  | .ofNat 21 => order_21
  | .ofNat 22 => order_22
  | .ofNat 23 => order_23
  | .ofNat 24 => order_24
  | .ofNat 25 => order_25
  | .ofNat 26 => order_26
  | .ofNat (k + 27) => order_big k
end Go.Proofs.YtdojencjbmahpaaGreatDoor
