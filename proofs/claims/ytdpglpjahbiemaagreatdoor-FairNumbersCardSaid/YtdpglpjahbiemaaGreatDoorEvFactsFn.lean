/- The closed facts of the row of FairNumbers, each by itself. -/
import Derived.Test.YtdpglpjahbiemaaGreatDoorRows
import Derived.JoinedOf
namespace Go.Proofs.YtdpglpjahbiemaaGreatDoor.FactsFn
open Go
set_option maxRecDepth 100000
theorem wf : Rows.fairNumbersRow.wf (OpenSpec.ofChange Rows.fairNumbersSpec) = true := by kernel_rfl
theorem laidOut : laidOutB Tryz.prog = true := by kernel_rfl
theorem rowed : mapsRowed Tryz.prog = true := by kernel_rfl
theorem inPlace : (Rows.fairNumbersRow.inPlace == Tryz.prog.inPlace 4) = true := by kernel_rfl
theorem unfollowed : (Rows.fairNumbersRow.unfollowed == Tryz.prog.unfollowed 4) = true := by kernel_rfl
theorem recurses : (Rows.fairNumbersRow.recurses == Tryz.prog.recurses 4) = true := by kernel_rfl
theorem named : (Rows.fairNumbersRow.named == Tryz.prog.varsNamed 4) = true := by kernel_rfl
theorem byName : Tryz.prog.funcNamed Rows.fairNumbersRow.func = some 4 := by kernel_rfl
theorem joined : joinedFacts Tryz.prog 4 Tryz.f4 Rows.fairNumbersSpec Rows.fairNumbersRow = true := by
  unfold joinedFacts
  rw [wf, laidOut, rowed, inPlace, unfollowed, recurses, named]
  kernel_rfl
theorem instance_ : Tryz.f4.isInstance Tryz.prog Rows.fairNumbersRow.origin Rows.fairNumbersRow.targs := of_decide_eq_true (by kernel_rfl)
theorem wrapper_ : Tryz.f4.isWrapper Tryz.prog Rows.fairNumbersRow.wrapper Rows.fairNumbersRow.mainSum := by unfold Func.isWrapper; rw [if_neg (by decide +kernel)]; exact ⟨rfl, rfl⟩
theorem own : ownKnob Tryz.prog.godebug = none := by kernel_rfl
end Go.Proofs.YtdpglpjahbiemaaGreatDoor.FactsFn
