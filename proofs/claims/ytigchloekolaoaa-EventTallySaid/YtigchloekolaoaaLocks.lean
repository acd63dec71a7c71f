/-
  The numbers under which this translation holds sync.Mutex's functions and types; the kernel checks each.
-/
import Derived.Test.YtigchloekolaoaaProg
import Derived.Conc.MuLib
import Derived.Conc.MuLone
import Derived.KernelRfl
namespace Go.Proofs.Ytigchloekolaoaa
abbrev muLink : Go.Conc.Locks.MuLink := { lock := 36, unlock := 37, ilock := 45, iunlock := 46, lockSlow := 56, unlockSlow := 59, disable := 52, enable := 54, acquire := 55, relMerge := 57, cas32 := 53, add32 := 58, tMutex := 73, tIMutex := 71, tPMutex := 85, tPIMutex := 90, tPI32 := 92, tUP := 94, tNoCopy := 68, tU32 := 69 }
theorem muLib : Go.Conc.Locks.MuLib Try.prog muLink :=
  ⟨Try.func36, Try.func37, Try.func45, Try.func46, Try.func52, Try.func54, Try.func55, Try.func57, Try.func53, Try.func58, Try.underlying71, Try.runUnderlying71, Try.sizeOf71, Try.isAgg71, Try.zeroValue71, Try.underlying73, Try.runUnderlying73, Try.sizeOf73, Try.isAgg73, Try.zeroValue73, Try.underlying85, Try.runUnderlying85, Try.sizeOf85, Try.isAgg85, Try.zeroValue85, Try.underlying90, Try.runUnderlying90, Try.sizeOf90, Try.isAgg90, Try.zeroValue90, Try.underlying92, Try.runUnderlying92, Try.sizeOf92, Try.isAgg92, Try.zeroValue92, Try.underlying94, Try.runUnderlying94, Try.sizeOf94, Try.isAgg94, Try.zeroValue94, Try.underlying68, Try.runUnderlying68, Try.sizeOf68, Try.isAgg68, Try.zeroValue68, Try.underlying21, Try.runUnderlying21, Try.sizeOf21, Try.isAgg21, Try.zeroValue21, (by kernel_rfl)⟩
end Go.Proofs.Ytigchloekolaoaa
