/- The evaluator's answer at the law FairNumbers: one computation of the kernel's. -/
import Derived.Test.YtdpglpjahbiemaaGreatDoorEvTabFn
import Derived.KernelRfl
namespace Go.Proofs.YtdpglpjahbiemaaGreatDoor.Ev.Fn
open Go Go.Proofs.YtdpglpjahbiemaaGreatDoor.Ev
set_option maxRecDepth 1000000
def yes : Option Res → Bool
  | some r => (match r.v with | .b true => true | _ => false)
  | none => false
theorem yes_some {x : Option Res} (h : yes x = true) : ∃ r, x = some r ∧ r.v = .b true := by
  cases x with
  | none => cases h
  | some r =>
    obtain ⟨e, v, t, s⟩ := r
    cases v with
    | b x => cases x with
      | true => exact ⟨_, rfl, rfl⟩
      | false => cases h
    | _ => cases h
theorem answer : yes (run tab 100000 (.fn p4 []) { h := .l, nx := .h }) = true := by kernel_rfl
end Go.Proofs.YtdpglpjahbiemaaGreatDoor.Ev.Fn
