/-
  The numbers under which the translation holds sync.Mutex and what it calls, and that it holds them.
-/
import Derived.Test.YtekgdlpicgibhabProg
import Derived.Conc.RwLib
import Derived.Conc.MuData
import Derived.KernelRfl
namespace Go.Proofs.Ytekgdlpicgibhab
abbrev muLink : Go.Conc.Locks.MuLink := { lock := 41, unlock := 42, ilock := 51, iunlock := 52, lockSlow := 58, unlockSlow := 61, disable := 54, enable := 56, acquire := 57, relMerge := 59, cas32 := 55, add32 := 60, tMutex := 84, tIMutex := 82, tPMutex := 93, tPIMutex := 95, tPI32 := 97, tUP := 99, tNoCopy := 79, tU32 := 80 }
theorem muLib : Go.Conc.Locks.MuLib Try.prog muLink :=
  ⟨Try.func41, Try.func42, Try.func51, Try.func52, Try.func54, Try.func56, Try.func57, Try.func59, Try.func55, Try.func60, Try.underlying82, Try.runUnderlying82, Try.sizeOf82, Try.isAgg82, Try.zeroValue82, Try.underlying84, Try.runUnderlying84, Try.sizeOf84, Try.isAgg84, Try.zeroValue84, Try.underlying93, Try.runUnderlying93, Try.sizeOf93, Try.isAgg93, Try.zeroValue93, Try.underlying95, Try.runUnderlying95, Try.sizeOf95, Try.isAgg95, Try.zeroValue95, Try.underlying97, Try.runUnderlying97, Try.sizeOf97, Try.isAgg97, Try.zeroValue97, Try.underlying99, Try.runUnderlying99, Try.sizeOf99, Try.isAgg99, Try.zeroValue99, Try.underlying79, Try.runUnderlying79, Try.sizeOf79, Try.isAgg79, Try.zeroValue79, Try.underlying21, Try.runUnderlying21, Try.sizeOf21, Try.isAgg21, Try.zeroValue21, (by kernel_rfl)⟩
end Go.Proofs.Ytekgdlpicgibhab
