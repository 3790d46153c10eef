/-
  DERIVED. GIVEN WITH THE SEED: THE CARDS: each row of YtdpglpjahbiemaaGreatDoorRows.lean that lists a variable, with what it lists TIED to the program's text (the seventh form; the later family's looks); each row that meets fmt, with fmt's text TOLD by the authors' own Lean function (tested against real Go, not proved from fmt's source: count such statements apart). THE CARD IS WHAT COUNTS. Prove the row's statement (the work); the ties are given (YtdpglpjahbiemaaGreatDoorTie.lean); close each card by the builder's one call (the guide's Derived/Test/ToyasCard.lean, 'card_holds'). Laid BY PROGRAM, IN A SANDBOX (cutbox-door.mjs). By AI agents, Wed Nov 11 2026. No macro, syntax, notation, axiom, sorry.
-/
import Derived.Test.YtdpglpjahbiemaaGreatDoorRows
import GoSem.ClaimSeven
namespace Go.Proofs.YtdpglpjahbiemaaGreatDoor
namespace Rows

/-- THE TIED CARD OF 'warrenlaw23.MachineNumbers'. -/
def machineNumbersCard : Claim7 := { stood := { row := machineNumbersRow, standIns := [], harness := (true, "1dedab6c43c0a3281aa66487ab49ebd19209f5d19807971138c7ff164ea28a05"), looks := true }, kinds := [], alts := [], laidByText := true, laidKinds := [.data, .pinned], laidTests := true, laidLooks := .later }
def MachineNumbersCardSaid : Prop := Claim7.holds Tryz.pinned (.plain (OpenSpec.ofChange machineNumbersSpec)) machineNumbersCard

/-- THE TIED CARD OF 'warrenlaw25.FairNumbers'. -/
def fairNumbersCard : Claim7 := { stood := { row := fairNumbersRow, standIns := [], harness := (true, "1dedab6c43c0a3281aa66487ab49ebd19209f5d19807971138c7ff164ea28a05"), looks := true }, kinds := [], alts := [], laidByText := true, laidKinds := [.data, .pinned], laidTests := true, laidLooks := .later }
def FairNumbersCardSaid : Prop := Claim7.holds Tryz.pinned (.plain (OpenSpec.ofChange fairNumbersSpec)) fairNumbersCard

/-- THE TIED CARD OF 'warrentop.TopMost'. -/
def topMostCard : Claim7 := { stood := { row := topMostRow, standIns := [], harness := (true, "1dedab6c43c0a3281aa66487ab49ebd19209f5d19807971138c7ff164ea28a05"), looks := true }, kinds := [], alts := [], laidByText := true, laidKinds := [.data, .data, .data, .data, .pinned], laidTests := true, laidLooks := .later }
def TopMostCardSaid : Prop := Claim7.holds Tryz.pinned (.plain (OpenSpec.ofChange topMostSpec)) topMostCard

/-- THE TIED CARD OF 'warrentop.TopReplaces'. -/
def topReplacesCard : Claim7 := { stood := { row := topReplacesRow, standIns := [], harness := (true, "1dedab6c43c0a3281aa66487ab49ebd19209f5d19807971138c7ff164ea28a05"), looks := true }, kinds := [], alts := [], laidByText := true, laidKinds := [.data, .data, .data, .data, .pinned], laidTests := true, laidLooks := .later }
def TopReplacesCardSaid : Prop := Claim7.holds Tryz.pinned (.plain (OpenSpec.ofChange topReplacesSpec)) topReplacesCard

/-- THE TIED CARD OF 'warrenlaw21.FsNumbers'. -/
def fsNumbersCard : Claim7 := { stood := { row := fsNumbersRow, standIns := [], harness := (true, "1dedab6c43c0a3281aa66487ab49ebd19209f5d19807971138c7ff164ea28a05"), looks := true }, kinds := [], alts := [], laidByText := true, laidKinds := [.data, .data, .data, .data, .pinned], laidTests := true, laidLooks := .later }
def FsNumbersCardSaid : Prop := Claim7.holds Tryz.pinned (.plain (OpenSpec.ofChange fsNumbersSpec)) fsNumbersCard

/-- THE SECOND FORM's CARD OF 'warrenlaw23.MachineNumbers'. -/
def machineNumbersUptoCard : Claim7 := { stood := { row := machineNumbersUptoRow, standIns := [], harness := (true, "1dedab6c43c0a3281aa66487ab49ebd19209f5d19807971138c7ff164ea28a05"), looks := true }, kinds := [], alts := [], laidByText := true, laidKinds := [.data, .pinned], laidTests := true, laidLooks := .later }
def MachineNumbersUptoCardSaid : Prop := Claim7.holds Tryz.pinned (.plain (OpenSpec.upto machineNumbersSpec)) machineNumbersUptoCard

/-- THE SECOND FORM's CARD OF 'warrenlaw25.FairNumbers'. -/
def fairNumbersUptoCard : Claim7 := { stood := { row := fairNumbersUptoRow, standIns := [], harness := (true, "1dedab6c43c0a3281aa66487ab49ebd19209f5d19807971138c7ff164ea28a05"), looks := true }, kinds := [], alts := [], laidByText := true, laidKinds := [.data, .pinned], laidTests := true, laidLooks := .later }
def FairNumbersUptoCardSaid : Prop := Claim7.holds Tryz.pinned (.plain (OpenSpec.upto fairNumbersSpec)) fairNumbersUptoCard

/-- THE SECOND FORM's CARD OF 'warrentop.TopMost'. -/
def topMostUptoCard : Claim7 := { stood := { row := topMostUptoRow, standIns := [], harness := (true, "1dedab6c43c0a3281aa66487ab49ebd19209f5d19807971138c7ff164ea28a05"), looks := true }, kinds := [], alts := [], laidByText := true, laidKinds := [.data, .data, .data, .data, .pinned], laidTests := true, laidLooks := .later }
def TopMostUptoCardSaid : Prop := Claim7.holds Tryz.pinned (.plain (OpenSpec.upto topMostSpec)) topMostUptoCard

/-- THE SECOND FORM's CARD OF 'warrentop.TopReplaces'. -/
def topReplacesUptoCard : Claim7 := { stood := { row := topReplacesUptoRow, standIns := [], harness := (true, "1dedab6c43c0a3281aa66487ab49ebd19209f5d19807971138c7ff164ea28a05"), looks := true }, kinds := [], alts := [], laidByText := true, laidKinds := [.data, .data, .data, .data, .pinned], laidTests := true, laidLooks := .later }
def TopReplacesUptoCardSaid : Prop := Claim7.holds Tryz.pinned (.plain (OpenSpec.upto topReplacesSpec)) topReplacesUptoCard

/-- THE SECOND FORM's CARD OF 'warrenlaw21.FsNumbers'. -/
def fsNumbersUptoCard : Claim7 := { stood := { row := fsNumbersUptoRow, standIns := [], harness := (true, "1dedab6c43c0a3281aa66487ab49ebd19209f5d19807971138c7ff164ea28a05"), looks := true }, kinds := [], alts := [], laidByText := true, laidKinds := [.data, .data, .data, .data, .pinned], laidTests := true, laidLooks := .later }
def FsNumbersUptoCardSaid : Prop := Claim7.holds Tryz.pinned (.plain (OpenSpec.upto fsNumbersSpec)) fsNumbersUptoCard
end Rows
end Go.Proofs.YtdpglpjahbiemaaGreatDoor
