/- The lock's library in this program. Written by wip/bin/vmt.py. -/
import Derived.Test.YtaahfdjobpbpjaaGreatDoorVmu
import Derived.Test.YtaahfdjobpbpjaaGreatDoorProg
import Derived.KernelRfl
set_option linter.unusedVariables false
set_option maxRecDepth 100000
namespace Go.Proofs.YtaahfdjobpbpjaaGreatDoor
open Go.Conc.Locks
def muL : MuLink := { lock := 94, unlock := 95, ilock := 126, iunlock := 127, lockSlow := 159, unlockSlow := 162, disable := 155, enable := 157, acquire := 158, relMerge := 160, cas32 := 156, add32 := 161, tMutex := 166, tIMutex := 164, tPMutex := 262, tPIMutex := 290, tPI32 := 292, tUP := 108, tNoCopy := 161, tU32 := 162 }
theorem muLib : MuLib Tryz.prog muL where
  f_lock := by kernel_rfl
  f_unlock := by kernel_rfl
  f_ilock := by kernel_rfl
  f_iunlock := by kernel_rfl
  f_disable := by kernel_rfl
  f_enable := by kernel_rfl
  f_acquire := by kernel_rfl
  f_relMerge := by kernel_rfl
  f_cas32 := by kernel_rfl
  f_add32 := by kernel_rfl
  underlying_tIMutex := by kernel_rfl
  runUnderlying_tIMutex := fun w => by kernel_rfl
  sizeOf_tIMutex := fun w => by kernel_rfl
  isAgg_tIMutex := fun w => by kernel_rfl
  zeroValue_tIMutex := fun w => by kernel_rfl
  underlying_tMutex := by kernel_rfl
  runUnderlying_tMutex := fun w => by kernel_rfl
  sizeOf_tMutex := fun w => by kernel_rfl
  isAgg_tMutex := fun w => by kernel_rfl
  zeroValue_tMutex := fun w => by kernel_rfl
  underlying_tPMutex := by kernel_rfl
  runUnderlying_tPMutex := fun w => by kernel_rfl
  sizeOf_tPMutex := fun w => by kernel_rfl
  isAgg_tPMutex := fun w => by kernel_rfl
  zeroValue_tPMutex := fun w => by kernel_rfl
  underlying_tPIMutex := by kernel_rfl
  runUnderlying_tPIMutex := fun w => by kernel_rfl
  sizeOf_tPIMutex := fun w => by kernel_rfl
  isAgg_tPIMutex := fun w => by kernel_rfl
  zeroValue_tPIMutex := fun w => by kernel_rfl
  underlying_tPI32 := by kernel_rfl
  runUnderlying_tPI32 := fun w => by kernel_rfl
  sizeOf_tPI32 := fun w => by kernel_rfl
  isAgg_tPI32 := fun w => by kernel_rfl
  zeroValue_tPI32 := fun w => by kernel_rfl
  underlying_tUP := by kernel_rfl
  runUnderlying_tUP := fun w => by kernel_rfl
  sizeOf_tUP := fun w => by kernel_rfl
  isAgg_tUP := fun w => by kernel_rfl
  zeroValue_tUP := fun w => by kernel_rfl
  underlying_tNoCopy := by kernel_rfl
  runUnderlying_tNoCopy := fun w => by kernel_rfl
  sizeOf_tNoCopy := fun w => by kernel_rfl
  isAgg_tNoCopy := fun w => by kernel_rfl
  zeroValue_tNoCopy := fun w => by kernel_rfl
  underlying_t21 := by kernel_rfl
  runUnderlying_t21 := fun w => by kernel_rfl
  sizeOf_t21 := fun w => by kernel_rfl
  isAgg_t21 := fun w => by kernel_rfl
  zeroValue_t21 := fun w => by kernel_rfl
  room_tIMutex := by kernel_rfl
theorem mu_ext : CallOk Tryz.prog (muExt 94) := muExt_ok muLib (by kernel_rfl)
theorem mu_extd : DefOk Tryz.prog (muExtd 95) := muExtd_ok muLib (by kernel_rfl)
end Go.Proofs.YtaahfdjobpbpjaaGreatDoor
