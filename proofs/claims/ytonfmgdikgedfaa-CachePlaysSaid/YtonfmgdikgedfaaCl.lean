/- The locks of this dump. -/
import Derived.Test.YtonfmgdikgedfaaProg
import Derived.Conc.RwLib
import Derived.Conc.MuData
import Derived.Conc.MuLone
import Derived.KernelRfl
namespace Go.Proofs.Ytonfmgdikgedfaa.Cm
abbrev muLink : Go.Conc.Locks.MuLink := { lock := 122, unlock := 123, ilock := 128, iunlock := 129, lockSlow := 136, unlockSlow := 138, disable := 59, enable := 61, acquire := 62, relMerge := 76, cas32 := 135, add32 := 137, tMutex := 109, tIMutex := 107, tPMutex := 178, tPIMutex := 184, tPI32 := 186, tUP := 99, tNoCopy := 72, tU32 := 78 }
theorem muLib : Go.Conc.Locks.MuLib Try.prog muLink :=
  ⟨Try.func122, Try.func123, Try.func128, Try.func129, Try.func59, Try.func61, Try.func62, Try.func76, Try.func135, Try.func137, Try.underlying107, Try.runUnderlying107, Try.sizeOf107, Try.isAgg107, Try.zeroValue107, Try.underlying109, Try.runUnderlying109, Try.sizeOf109, Try.isAgg109, Try.zeroValue109, Try.underlying178, Try.runUnderlying178, Try.sizeOf178, Try.isAgg178, Try.zeroValue178, Try.underlying184, Try.runUnderlying184, Try.sizeOf184, Try.isAgg184, Try.zeroValue184, Try.underlying186, Try.runUnderlying186, Try.sizeOf186, Try.isAgg186, Try.zeroValue186, Try.underlying99, Try.runUnderlying99, Try.sizeOf99, Try.isAgg99, Try.zeroValue99, Try.underlying72, Try.runUnderlying72, Try.sizeOf72, Try.isAgg72, Try.zeroValue72, Try.underlying21, Try.runUnderlying21, Try.sizeOf21, Try.isAgg21, Try.zeroValue21, (by kernel_rfl)⟩
end Go.Proofs.Ytonfmgdikgedfaa.Cm
