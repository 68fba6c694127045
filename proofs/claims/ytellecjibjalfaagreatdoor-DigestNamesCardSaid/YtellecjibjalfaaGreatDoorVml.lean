/- The lock's library in this program. Written by wip/bin/vmt.py. -/
import Derived.Test.YtellecjibjalfaaGreatDoorVmu
import Derived.Test.YtellecjibjalfaaGreatDoorProg
import Derived.KernelRfl
set_option linter.unusedVariables false
set_option maxRecDepth 100000
namespace Go.Proofs.YtellecjibjalfaaGreatDoor
open Go.Conc.Locks
def muL : MuLink := { lock := 17, unlock := 18, ilock := 28, iunlock := 29, lockSlow := 44, unlockSlow := 47, disable := 40, enable := 42, acquire := 43, relMerge := 45, cas32 := 41, add32 := 46, tMutex := 51, tIMutex := 49, tPMutex := 63, tPIMutex := 80, tPI32 := 82, tUP := 84, tNoCopy := 46, tU32 := 47 }
theorem muLib : MuLib Tryz.prog muL where
  f_lock := by kernel_rfl
  f_unlock := by kernel_rfl
  f_ilock := by kernel_rfl
  f_iunlock := by kernel_rfl
  f_disable := by kernel_rfl
  f_enable := by kernel_rfl
  f_acquire := by kernel_rfl
  f_relMerge := by kernel_rfl
  f_cas32 := by kernel_rfl
  f_add32 := by kernel_rfl
  underlying_tIMutex := by kernel_rfl
  runUnderlying_tIMutex := fun w => by kernel_rfl
  sizeOf_tIMutex := fun w => by kernel_rfl
  isAgg_tIMutex := fun w => by kernel_rfl
  zeroValue_tIMutex := fun w => by kernel_rfl
  underlying_tMutex := by kernel_rfl
  runUnderlying_tMutex := fun w => by kernel_rfl
  sizeOf_tMutex := fun w => by kernel_rfl
  isAgg_tMutex := fun w => by kernel_rfl
  zeroValue_tMutex := fun w => by kernel_rfl
  underlying_tPMutex := by kernel_rfl
  runUnderlying_tPMutex := fun w => by kernel_rfl
  sizeOf_tPMutex := fun w => by kernel_rfl
  isAgg_tPMutex := fun w => by kernel_rfl
  zeroValue_tPMutex := fun w => by kernel_rfl
  underlying_tPIMutex := by kernel_rfl
  runUnderlying_tPIMutex := fun w => by kernel_rfl
  sizeOf_tPIMutex := fun w => by kernel_rfl
  isAgg_tPIMutex := fun w => by kernel_rfl
  zeroValue_tPIMutex := fun w => by kernel_rfl
  underlying_tPI32 := by kernel_rfl
  runUnderlying_tPI32 := fun w => by kernel_rfl
  sizeOf_tPI32 := fun w => by kernel_rfl
  isAgg_tPI32 := fun w => by kernel_rfl
  zeroValue_tPI32 := fun w => by kernel_rfl
  underlying_tUP := by kernel_rfl
  runUnderlying_tUP := fun w => by kernel_rfl
  sizeOf_tUP := fun w => by kernel_rfl
  isAgg_tUP := fun w => by kernel_rfl
  zeroValue_tUP := fun w => by kernel_rfl
  underlying_tNoCopy := by kernel_rfl
  runUnderlying_tNoCopy := fun w => by kernel_rfl
  sizeOf_tNoCopy := fun w => by kernel_rfl
  isAgg_tNoCopy := fun w => by kernel_rfl
  zeroValue_tNoCopy := fun w => by kernel_rfl
  underlying_t21 := by kernel_rfl
  runUnderlying_t21 := fun w => by kernel_rfl
  sizeOf_t21 := fun w => by kernel_rfl
  isAgg_t21 := fun w => by kernel_rfl
  zeroValue_t21 := fun w => by kernel_rfl
  room_tIMutex := by kernel_rfl
theorem mu_ext : CallOk Tryz.prog (muExt 17) := muExt_ok muLib (by kernel_rfl)
theorem mu_extd : DefOk Tryz.prog (muExtd 18) := muExtd_ok muLib (by kernel_rfl)
end Go.Proofs.YtellecjibjalfaaGreatDoor
