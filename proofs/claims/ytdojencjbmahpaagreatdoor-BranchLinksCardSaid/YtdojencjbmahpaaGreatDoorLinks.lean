/-
  'veneerlaw8.BranchLinks', run: for each number of names; below and above nothing is asked.
-/
import Derived.Test.YtdojencjbmahpaaGreatDoorKn
namespace Go.Proofs.YtdojencjbmahpaaGreatDoor
open Go.Rf
set_option maxRecDepth 100000
noncomputable def gLinks : List AV → Option (AV × Ent) := fDat te XL 400 Tryz.f9
theorem isFun_9 : IsFun Tryz.prog 9 Tryz.f9 := ⟨Tryz.func9, by kernel_rfl, by kernel_rfl⟩
theorem stat_9 : codeStat (Tryz.f9.body.getD .skip) = true := by kernel_rfl
theorem links_sound : SpecSound Tryz.prog 9 (XS.spec (.dat gLinks)) := fDat_sound te_ok XL_sound mixed isFun_9 stat_9 400
theorem links_neg1 : gLinks [.int .i64 (Int.negSucc 0)] = some (.bool true, .none) := by kernel_rfl
theorem links_neg (k : Nat) : gLinks [.int .i64 (Int.negSucc k.succ)] = some (.bool true, .none) := by kernel_rfl
theorem links_big (k : Nat) : gLinks [.int .i64 (Int.ofNat k.succ.succ.succ.succ.succ.succ.succ.succ.succ)] = some (.bool true, .none) := by kernel_rfl
theorem links_0 : gLinks [.int .i64 (Int.ofNat 0)] = some (.bool true, .none) := by kernel_rfl
theorem links_1 : gLinks [.int .i64 (Int.ofNat 1)] = some (.bool true, .none) := by kernel_rfl
theorem links_2 : gLinks [.int .i64 (Int.ofNat 2)] = some (.bool true, .none) := by kernel_rfl
theorem links_3 : gLinks [.int .i64 (Int.ofNat 3)] = some (.bool true, .none) := by kernel_rfl
theorem links_4 : gLinks [.int .i64 (Int.ofNat 4)] = some (.bool true, .none) := by kernel_rfl
end Go.Proofs.YtdojencjbmahpaaGreatDoor
