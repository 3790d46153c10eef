/- The closed facts of the row of MachineNumbers, each by itself. -/
import Derived.Test.YtdpglpjahbiemaaGreatDoorRows
import Derived.JoinedOf
namespace Go.Proofs.YtdpglpjahbiemaaGreatDoor.FactsMn
open Go
set_option maxRecDepth 100000
theorem wf : Rows.machineNumbersRow.wf (OpenSpec.ofChange Rows.machineNumbersSpec) = true := by kernel_rfl
theorem laidOut : laidOutB Tryz.prog = true := by kernel_rfl
theorem rowed : mapsRowed Tryz.prog = true := by kernel_rfl
theorem inPlace : (Rows.machineNumbersRow.inPlace == Tryz.prog.inPlace 3) = true := by kernel_rfl
theorem unfollowed : (Rows.machineNumbersRow.unfollowed == Tryz.prog.unfollowed 3) = true := by kernel_rfl
theorem recurses : (Rows.machineNumbersRow.recurses == Tryz.prog.recurses 3) = true := by kernel_rfl
theorem named : (Rows.machineNumbersRow.named == Tryz.prog.varsNamed 3) = true := by kernel_rfl
theorem byName : Tryz.prog.funcNamed Rows.machineNumbersRow.func = some 3 := by kernel_rfl
theorem joined : joinedFacts Tryz.prog 3 Tryz.f3 Rows.machineNumbersSpec Rows.machineNumbersRow = true := by
  unfold joinedFacts
  rw [wf, laidOut, rowed, inPlace, unfollowed, recurses, named]
  kernel_rfl
theorem instance_ : Tryz.f3.isInstance Tryz.prog Rows.machineNumbersRow.origin Rows.machineNumbersRow.targs := of_decide_eq_true (by kernel_rfl)
theorem wrapper_ : Tryz.f3.isWrapper Tryz.prog Rows.machineNumbersRow.wrapper Rows.machineNumbersRow.mainSum := by unfold Func.isWrapper; rw [if_neg (by decide +kernel)]; exact ⟨rfl, rfl⟩
theorem own : ownKnob Tryz.prog.godebug = none := by kernel_rfl
end Go.Proofs.YtdpglpjahbiemaaGreatDoor.FactsMn
