/-
  The check of what is known, of the laws of the model, by a run.
-/
import Derived.Test.YtdojencjbmahpaaGreatDoorKn
namespace Go.Proofs.YtdojencjbmahpaaGreatDoor
open Go.Rf
set_option maxRecDepth 100000
theorem knownM_run : fDat te (X 40) 400 Tryz.f36 [] = some (.bool true, .none) := by kernel_rfl
theorem knownM_sound : SpecSound Tryz.prog 36 (XS.spec (.dat xTrue)) := memo_true (fDat_sound te_ok (X_sound 40) mixed isFun_36 stat_36 400) knownM_run
noncomputable def XM : XE := withOne 36 (.dat xTrue) (X 41)
theorem XM_sound : Sound Tryz.prog XM.env := withOne_sound knownM_sound (X_sound 41)
end Go.Proofs.YtdojencjbmahpaaGreatDoor
