/-
  The law's own check of what is known, by a run.
-/
import Derived.Test.YtdojencjbmahpaaGreatDoorTb
import Derived.Test.YtdojencjbmahpaaGreatDoorRhK
namespace Go.Proofs.YtdojencjbmahpaaGreatDoor
open Go.Rf
set_option maxRecDepth 100000
theorem known_run : fDat te (X 30) 400 Tryz.f20 [] = some (.bool true, .none) := by kernel_rfl
theorem known_sound : SpecSound Tryz.prog 20 (XS.spec (.dat xTrue)) := memo_true (fDat_sound te_ok (X_sound 30) mixed isFun_20 stat_20 400) known_run
/-- The functions that the laws of the branch call. -/
noncomputable def XL : XE := withOne 20 (.dat xTrue) (X 40)
theorem XL_sound : Sound Tryz.prog XL.env := withOne_sound known_sound (X_sound 40)
end Go.Proofs.YtdojencjbmahpaaGreatDoor
