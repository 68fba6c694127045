/- The lock's library in this program. Written by wip/bin/vmt.py. -/
import Derived.Test.YtobkanoogapgaaaGreatDoorVmu
import Derived.Test.YtobkanoogapgaaaGreatDoorProg
import Derived.KernelRfl
set_option linter.unusedVariables false
set_option maxRecDepth 100000
namespace Go.Proofs.YtobkanoogapgaaaGreatDoor
open Go.Conc.Locks
def muL : MuLink := { lock := 34, unlock := 35, ilock := 67, iunlock := 68, lockSlow := 95, unlockSlow := 98, disable := 91, enable := 93, acquire := 94, relMerge := 96, cas32 := 92, add32 := 97, tMutex := 80, tIMutex := 78, tPMutex := 148, tPIMutex := 185, tPI32 := 187, tUP := 189, tNoCopy := 75, tU32 := 76 }
theorem muLib : MuLib Tryz.prog muL where
  f_lock := by kernel_rfl
  f_unlock := by kernel_rfl
  f_ilock := by kernel_rfl
  f_iunlock := by kernel_rfl
  f_disable := by kernel_rfl
  f_enable := by kernel_rfl
  f_acquire := by kernel_rfl
  f_relMerge := by kernel_rfl
  f_cas32 := by kernel_rfl
  f_add32 := by kernel_rfl
  underlying_tIMutex := by kernel_rfl
  runUnderlying_tIMutex := fun w => by kernel_rfl
  sizeOf_tIMutex := fun w => by kernel_rfl
  isAgg_tIMutex := fun w => by kernel_rfl
  zeroValue_tIMutex := fun w => by kernel_rfl
  underlying_tMutex := by kernel_rfl
  runUnderlying_tMutex := fun w => by kernel_rfl
  sizeOf_tMutex := fun w => by kernel_rfl
  isAgg_tMutex := fun w => by kernel_rfl
  zeroValue_tMutex := fun w => by kernel_rfl
  underlying_tPMutex := by kernel_rfl
  runUnderlying_tPMutex := fun w => by kernel_rfl
  sizeOf_tPMutex := fun w => by kernel_rfl
  isAgg_tPMutex := fun w => by kernel_rfl
  zeroValue_tPMutex := fun w => by kernel_rfl
  underlying_tPIMutex := by kernel_rfl
  runUnderlying_tPIMutex := fun w => by kernel_rfl
  sizeOf_tPIMutex := fun w => by kernel_rfl
  isAgg_tPIMutex := fun w => by kernel_rfl
  zeroValue_tPIMutex := fun w => by kernel_rfl
  underlying_tPI32 := by kernel_rfl
  runUnderlying_tPI32 := fun w => by kernel_rfl
  sizeOf_tPI32 := fun w => by kernel_rfl
  isAgg_tPI32 := fun w => by kernel_rfl
  zeroValue_tPI32 := fun w => by kernel_rfl
  underlying_tUP := by kernel_rfl
  runUnderlying_tUP := fun w => by kernel_rfl
  sizeOf_tUP := fun w => by kernel_rfl
  isAgg_tUP := fun w => by kernel_rfl
  zeroValue_tUP := fun w => by kernel_rfl
  underlying_tNoCopy := by kernel_rfl
  runUnderlying_tNoCopy := fun w => by kernel_rfl
  sizeOf_tNoCopy := fun w => by kernel_rfl
  isAgg_tNoCopy := fun w => by kernel_rfl
  zeroValue_tNoCopy := fun w => by kernel_rfl
  underlying_t21 := by kernel_rfl
  runUnderlying_t21 := fun w => by kernel_rfl
  sizeOf_t21 := fun w => by kernel_rfl
  isAgg_t21 := fun w => by kernel_rfl
  zeroValue_t21 := fun w => by kernel_rfl
  room_tIMutex := by kernel_rfl
theorem mu_ext : CallOk Tryz.prog (muExt 34) := muExt_ok muLib (by kernel_rfl)
theorem mu_extd : DefOk Tryz.prog (muExtd 35) := muExtd_ok muLib (by kernel_rfl)
end Go.Proofs.YtobkanoogapgaaaGreatDoor
