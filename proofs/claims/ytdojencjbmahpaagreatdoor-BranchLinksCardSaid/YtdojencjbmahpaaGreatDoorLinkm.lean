/-
  'veneerlaw8.BranchLinks', run: more names.
-/
import Derived.Test.YtdojencjbmahpaaGreatDoorLinks
namespace Go.Proofs.YtdojencjbmahpaaGreatDoor
open Go.Rf
set_option maxRecDepth 100000
theorem links_5 : gLinks [.int .i64 (Int.ofNat 5)] = some (.bool true, .none) := by kernel_rfl
theorem links_6 : gLinks [.int .i64 (Int.ofNat 6)] = some (.bool true, .none) := by kernel_rfl
theorem links_7 : gLinks [.int .i64 (Int.ofNat 7)] = some (.bool true, .none) := by kernel_rfl
theorem links_8 : gLinks [.int .i64 (Int.ofNat 8)] = some (.bool true, .none) := by kernel_rfl
theorem links_run : ∀ n : Int, gLinks [.int .i64 n] = some (.bool true, .none)
  | .negSucc 0 => links_neg1
  | .negSucc (k + 1) => links_neg k
  | .ofNat 0 => links_0
  | .ofNat 1 => links_1
  | .ofNat 2 => links_2
  | .ofNat 3 => links_3
  | .ofNat 4 => links_4
  | .ofNat 5 => links_5
  | .ofNat 6 => links_6
  | .ofNat 7 => links_7
  | .ofNat 8 => links_8
  | .ofNat (k + 9) => links_big k
end Go.Proofs.YtdojencjbmahpaaGreatDoor
