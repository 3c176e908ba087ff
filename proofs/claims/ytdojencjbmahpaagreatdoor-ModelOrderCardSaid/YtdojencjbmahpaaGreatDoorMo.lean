/-
  'veneerlaw22.ModelOrder', run: each of the ways; below and above nothing is asked.
-/
import Derived.Test.YtdojencjbmahpaaGreatDoorKm
namespace Go.Proofs.YtdojencjbmahpaaGreatDoor
open Go.Rf
set_option maxRecDepth 100000
noncomputable def gMorder : List AV → Option (AV × Ent) := fDat te XM 400 Tryz.f13
theorem isFun_13 : IsFun Tryz.prog 13 Tryz.f13 := ⟨Tryz.func13, by kernel_rfl, by kernel_rfl⟩
theorem stat_13 : codeStat (Tryz.f13.body.getD .skip) = true := by kernel_rfl
theorem morder_sound : SpecSound Tryz.prog 13 (XS.spec (.dat gMorder)) := fDat_sound te_ok XM_sound mixed isFun_13 stat_13 400
theorem morder_neg1 : gMorder [.int .i64 (Int.negSucc 0)] = some (.bool true, .none) := by kernel_rfl
theorem morder_neg (k : Nat) : gMorder [.int .i64 (Int.negSucc k.succ)] = some (.bool true, .none) := by kernel_rfl
theorem morder_0 : gMorder [.int .i64 (Int.ofNat 0)] = some (.bool true, .none) := by kernel_rfl
theorem morder_1 : gMorder [.int .i64 (Int.ofNat 1)] = some (.bool true, .none) := by kernel_rfl
theorem morder_2 : gMorder [.int .i64 (Int.ofNat 2)] = some (.bool true, .none) := by kernel_rfl
theorem morder_3 : gMorder [.int .i64 (Int.ofNat 3)] = some (.bool true, .none) := by kernel_rfl
theorem morder_4 : gMorder [.int .i64 (Int.ofNat 4)] = some (.bool true, .none) := by kernel_rfl
theorem morder_5 : gMorder [.int .i64 (Int.ofNat 5)] = some (.bool true, .none) := by kernel_rfl
theorem morder_6 : gMorder [.int .i64 (Int.ofNat 6)] = some (.bool true, .none) := by kernel_rfl
theorem morder_7 : gMorder [.int .i64 (Int.ofNat 7)] = some (.bool true, .none) := by kernel_rfl
theorem morder_8 : gMorder [.int .i64 (Int.ofNat 8)] = some (.bool true, .none) := by kernel_rfl
theorem morder_9 : gMorder [.int .i64 (Int.ofNat 9)] = some (.bool true, .none) := by kernel_rfl
theorem morder_10 : gMorder [.int .i64 (Int.ofNat 10)] = some (.bool true, .none) := by kernel_rfl
theorem morder_11 : gMorder [.int .i64 (Int.ofNat 11)] = some (.bool true, .none) := by kernel_rfl
theorem morder_big (k : Nat) : gMorder [.int .i64 (Int.ofNat k.succ.succ.succ.succ.succ.succ.succ.succ.succ.succ.succ.succ)] = some (.bool true, .none) := by kernel_rfl
theorem morder_run : ∀ n : Int, gMorder [.int .i64 n] = some (.bool true, .none)
  | .negSucc 0 => morder_neg1
  | .negSucc (k + 1) => morder_neg k
  | .ofNat 0 => morder_0
  | .ofNat 1 => morder_1
  | .ofNat 2 => morder_2
  | .ofNat 3 => morder_3
  | .ofNat 4 => morder_4
  | .ofNat 5 => morder_5
  | .ofNat 6 => morder_6
  | .ofNat 7 => morder_7
  | .ofNat 8 => morder_8
  | .ofNat 9 => morder_9
  | .ofNat 10 => morder_10
  | .ofNat 11 => morder_11
  | .ofNat (k + 12) => morder_big k
end Go.Proofs.YtdojencjbmahpaaGreatDoor
