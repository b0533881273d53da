/-
  DERIVED. GIVEN WITH THE SEED: THE CARDS: each row of YtjpfohbfklghdaaGreatDoorRows.lean that lists a variable, with what it lists TIED to the program's text (the seventh form; the later family's looks); each row that meets fmt, with fmt's text TOLD by the authors' own Lean function (tested against real Go, not proved from fmt's source: count such statements apart). THE CARD IS WHAT COUNTS. Prove the row's statement (the work); the ties are given (YtjpfohbfklghdaaGreatDoorTie.lean); close each card by the builder's one call (the guide's Derived/Test/ToyasCard.lean, 'card_holds'). Laid BY PROGRAM, IN A SANDBOX (cutbox-door.mjs). By AI agents, Wed Nov 11 2026. No macro, syntax, notation, axiom, sorry.
-/
import Derived.Test.YtjpfohbfklghdaaGreatDoorRows
import GoSem.ClaimSeven
namespace Go.Proofs.YtjpfohbfklghdaaGreatDoor
namespace Rows

/-- THE TIED CARD OF 'stratumlaw16.FuseMemory'. -/
def fuseMemoryCard : Claim7 := { stood := { row := fuseMemoryRow, standIns := [], harness := (true, "a90630581b47b1fd1ffb68df7bac9af68da7b215a692cb0549a43855b659ae90"), looks := true }, kinds := [], alts := [], laidByText := true, laidKinds := [.data, .data, .data, .data, .sentinel, .sentinel, .data, .pinned], laidTests := true, laidLooks := .later }
def FuseMemoryCardSaid : Prop := Claim7.holds Tryz.pinned (.plain (OpenSpec.ofChange fuseMemorySpec)) fuseMemoryCard

/-- THE TIED CARD OF 'stratumlaw15.OpChecks'. -/
def opChecksCard : Claim7 := { stood := { row := opChecksRow, standIns := [], harness := (true, "a90630581b47b1fd1ffb68df7bac9af68da7b215a692cb0549a43855b659ae90"), looks := true }, kinds := [], alts := [], laidByText := true, laidKinds := [.data, .data, .data, .data, .sentinel, .sentinel, .data, .pinned], laidTests := true, laidLooks := .later }
def OpChecksCardSaid : Prop := Claim7.holds Tryz.pinned (.plain (OpenSpec.ofChange opChecksSpec)) opChecksCard

/-- THE TIED CARD OF 'stratumlaw15.OpBytes'. -/
def opBytesCard : Claim7 := { stood := { row := opBytesRow, standIns := [], harness := (true, "a90630581b47b1fd1ffb68df7bac9af68da7b215a692cb0549a43855b659ae90"), looks := true }, kinds := [], alts := [], laidByText := true, laidKinds := [.data, .data, .data, .data, .sentinel, .sentinel, .data, .pinned], laidTests := true, laidLooks := .later }
def OpBytesCardSaid : Prop := Claim7.holds Tryz.pinned (.plain (OpenSpec.ofChange opBytesSpec)) opBytesCard

/-- THE TIED CARD OF 'stratumlaw15.OpBack'. -/
def opBackCard : Claim7 := { stood := { row := opBackRow, standIns := [], harness := (true, "a90630581b47b1fd1ffb68df7bac9af68da7b215a692cb0549a43855b659ae90"), looks := true }, kinds := [], alts := [], laidByText := true, laidKinds := [.data, .data, .data, .data, .sentinel, .sentinel, .data, .pinned], laidTests := true, laidLooks := .later }
def OpBackCardSaid : Prop := Claim7.holds Tryz.pinned (.plain (OpenSpec.ofChange opBackSpec)) opBackCard

/-- THE TIED CARD OF 'stratumlaw15.OpForth'. -/
def opForthCard : Claim7 := { stood := { row := opForthRow, standIns := [], harness := (true, "a90630581b47b1fd1ffb68df7bac9af68da7b215a692cb0549a43855b659ae90"), looks := true }, kinds := [], alts := [], laidByText := true, laidKinds := [.data, .data, .data, .data, .sentinel, .sentinel, .data, .pinned], laidTests := true, laidLooks := .later }
def OpForthCardSaid : Prop := Claim7.holds Tryz.pinned (.plain (OpenSpec.ofChange opForthSpec)) opForthCard

/-- THE TIED CARD OF 'stratumlaw15.OpFront'. -/
def opFrontCard : Claim7 := { stood := { row := opFrontRow, standIns := [], harness := (true, "a90630581b47b1fd1ffb68df7bac9af68da7b215a692cb0549a43855b659ae90"), looks := true }, kinds := [], alts := [], laidByText := true, laidKinds := [.data, .data, .data, .data, .sentinel, .sentinel, .data, .pinned], laidTests := true, laidLooks := .later }
def OpFrontCardSaid : Prop := Claim7.holds Tryz.pinned (.plain (OpenSpec.ofChange opFrontSpec)) opFrontCard

/-- THE TIED CARD OF 'stratumlaw15.OpKeeps'. -/
def opKeepsCard : Claim7 := { stood := { row := opKeepsRow, standIns := [], harness := (true, "a90630581b47b1fd1ffb68df7bac9af68da7b215a692cb0549a43855b659ae90"), looks := true }, kinds := [], alts := [], laidByText := true, laidKinds := [.data, .data, .data, .data, .sentinel, .sentinel, .data, .pinned], laidTests := true, laidLooks := .later }
def OpKeepsCardSaid : Prop := Claim7.holds Tryz.pinned (.plain (OpenSpec.ofChange opKeepsSpec)) opKeepsCard

/-- THE TIED CARD OF 'stratumlaw14.StepOthers'. -/
def stepOthersCard : Claim7 := { stood := { row := stepOthersRow, standIns := [], harness := (true, "a90630581b47b1fd1ffb68df7bac9af68da7b215a692cb0549a43855b659ae90"), looks := true }, kinds := [], alts := [], laidByText := true, laidKinds := [.data, .data, .data, .data, .sentinel, .sentinel, .pinned], laidTests := true, laidLooks := .later }
def StepOthersCardSaid : Prop := Claim7.holds Tryz.pinned (.plain (OpenSpec.ofChange stepOthersSpec)) stepOthersCard

/-- THE TIED CARD OF 'stratumlaw14.StepBack'. -/
def stepBackCard : Claim7 := { stood := { row := stepBackRow, standIns := [], harness := (true, "a90630581b47b1fd1ffb68df7bac9af68da7b215a692cb0549a43855b659ae90"), looks := true }, kinds := [], alts := [], laidByText := true, laidKinds := [.data, .data, .data, .data, .sentinel, .sentinel, .pinned], laidTests := true, laidLooks := .later }
def StepBackCardSaid : Prop := Claim7.holds Tryz.pinned (.plain (OpenSpec.ofChange stepBackSpec)) stepBackCard

/-- THE TIED CARD OF 'stratumlaw14.StepKeeps'. -/
def stepKeepsCard : Claim7 := { stood := { row := stepKeepsRow, standIns := [], harness := (true, "a90630581b47b1fd1ffb68df7bac9af68da7b215a692cb0549a43855b659ae90"), looks := true }, kinds := [], alts := [], laidByText := true, laidKinds := [.data, .data, .data, .data, .sentinel, .sentinel, .pinned], laidTests := true, laidLooks := .later }
def StepKeepsCardSaid : Prop := Claim7.holds Tryz.pinned (.plain (OpenSpec.ofChange stepKeepsSpec)) stepKeepsCard

/-- THE TIED CARD OF 'stratumlaw15.OpStart'. -/
def opStartCard : Claim7 := { stood := { row := opStartRow, standIns := [], harness := (true, "a90630581b47b1fd1ffb68df7bac9af68da7b215a692cb0549a43855b659ae90"), looks := true }, kinds := [], alts := [], laidByText := true, laidKinds := [.data, .data, .data, .data, .sentinel, .sentinel, .data, .pinned], laidTests := true, laidLooks := .later }
def OpStartCardSaid : Prop := Claim7.holds Tryz.pinned (.plain (OpenSpec.ofChange opStartSpec)) opStartCard

/-- THE SECOND FORM's CARD OF 'stratumlaw16.FuseMemory'. -/
def fuseMemoryUptoCard : Claim7 := { stood := { row := fuseMemoryUptoRow, standIns := [], harness := (true, "a90630581b47b1fd1ffb68df7bac9af68da7b215a692cb0549a43855b659ae90"), looks := true }, kinds := [], alts := [], laidByText := true, laidKinds := [.data, .data, .data, .data, .sentinel, .sentinel, .data, .pinned], laidTests := true, laidLooks := .later }
def FuseMemoryUptoCardSaid : Prop := Claim7.holds Tryz.pinned (.plain (OpenSpec.upto fuseMemorySpec)) fuseMemoryUptoCard

/-- THE SECOND FORM's CARD OF 'stratumlaw15.OpChecks'. -/
def opChecksUptoCard : Claim7 := { stood := { row := opChecksUptoRow, standIns := [], harness := (true, "a90630581b47b1fd1ffb68df7bac9af68da7b215a692cb0549a43855b659ae90"), looks := true }, kinds := [], alts := [], laidByText := true, laidKinds := [.data, .data, .data, .data, .sentinel, .sentinel, .data, .pinned], laidTests := true, laidLooks := .later }
def OpChecksUptoCardSaid : Prop := Claim7.holds Tryz.pinned (.plain (OpenSpec.upto opChecksSpec)) opChecksUptoCard

/-- THE SECOND FORM's CARD OF 'stratumlaw15.OpBytes'. -/
def opBytesUptoCard : Claim7 := { stood := { row := opBytesUptoRow, standIns := [], harness := (true, "a90630581b47b1fd1ffb68df7bac9af68da7b215a692cb0549a43855b659ae90"), looks := true }, kinds := [], alts := [], laidByText := true, laidKinds := [.data, .data, .data, .data, .sentinel, .sentinel, .data, .pinned], laidTests := true, laidLooks := .later }
def OpBytesUptoCardSaid : Prop := Claim7.holds Tryz.pinned (.plain (OpenSpec.upto opBytesSpec)) opBytesUptoCard

/-- THE SECOND FORM's CARD OF 'stratumlaw15.OpBack'. -/
def opBackUptoCard : Claim7 := { stood := { row := opBackUptoRow, standIns := [], harness := (true, "a90630581b47b1fd1ffb68df7bac9af68da7b215a692cb0549a43855b659ae90"), looks := true }, kinds := [], alts := [], laidByText := true, laidKinds := [.data, .data, .data, .data, .sentinel, .sentinel, .data, .pinned], laidTests := true, laidLooks := .later }
def OpBackUptoCardSaid : Prop := Claim7.holds Tryz.pinned (.plain (OpenSpec.upto opBackSpec)) opBackUptoCard

/-- THE SECOND FORM's CARD OF 'stratumlaw15.OpForth'. -/
def opForthUptoCard : Claim7 := { stood := { row := opForthUptoRow, standIns := [], harness := (true, "a90630581b47b1fd1ffb68df7bac9af68da7b215a692cb0549a43855b659ae90"), looks := true }, kinds := [], alts := [], laidByText := true, laidKinds := [.data, .data, .data, .data, .sentinel, .sentinel, .data, .pinned], laidTests := true, laidLooks := .later }
def OpForthUptoCardSaid : Prop := Claim7.holds Tryz.pinned (.plain (OpenSpec.upto opForthSpec)) opForthUptoCard

/-- THE SECOND FORM's CARD OF 'stratumlaw15.OpFront'. -/
def opFrontUptoCard : Claim7 := { stood := { row := opFrontUptoRow, standIns := [], harness := (true, "a90630581b47b1fd1ffb68df7bac9af68da7b215a692cb0549a43855b659ae90"), looks := true }, kinds := [], alts := [], laidByText := true, laidKinds := [.data, .data, .data, .data, .sentinel, .sentinel, .data, .pinned], laidTests := true, laidLooks := .later }
def OpFrontUptoCardSaid : Prop := Claim7.holds Tryz.pinned (.plain (OpenSpec.upto opFrontSpec)) opFrontUptoCard

/-- THE SECOND FORM's CARD OF 'stratumlaw15.OpKeeps'. -/
def opKeepsUptoCard : Claim7 := { stood := { row := opKeepsUptoRow, standIns := [], harness := (true, "a90630581b47b1fd1ffb68df7bac9af68da7b215a692cb0549a43855b659ae90"), looks := true }, kinds := [], alts := [], laidByText := true, laidKinds := [.data, .data, .data, .data, .sentinel, .sentinel, .data, .pinned], laidTests := true, laidLooks := .later }
def OpKeepsUptoCardSaid : Prop := Claim7.holds Tryz.pinned (.plain (OpenSpec.upto opKeepsSpec)) opKeepsUptoCard

/-- THE SECOND FORM's CARD OF 'stratumlaw14.StepOthers'. -/
def stepOthersUptoCard : Claim7 := { stood := { row := stepOthersUptoRow, standIns := [], harness := (true, "a90630581b47b1fd1ffb68df7bac9af68da7b215a692cb0549a43855b659ae90"), looks := true }, kinds := [], alts := [], laidByText := true, laidKinds := [.data, .data, .data, .data, .sentinel, .sentinel, .pinned], laidTests := true, laidLooks := .later }
def StepOthersUptoCardSaid : Prop := Claim7.holds Tryz.pinned (.plain (OpenSpec.upto stepOthersSpec)) stepOthersUptoCard

/-- THE SECOND FORM's CARD OF 'stratumlaw14.StepBack'. -/
def stepBackUptoCard : Claim7 := { stood := { row := stepBackUptoRow, standIns := [], harness := (true, "a90630581b47b1fd1ffb68df7bac9af68da7b215a692cb0549a43855b659ae90"), looks := true }, kinds := [], alts := [], laidByText := true, laidKinds := [.data, .data, .data, .data, .sentinel, .sentinel, .pinned], laidTests := true, laidLooks := .later }
def StepBackUptoCardSaid : Prop := Claim7.holds Tryz.pinned (.plain (OpenSpec.upto stepBackSpec)) stepBackUptoCard

/-- THE SECOND FORM's CARD OF 'stratumlaw14.StepKeeps'. -/
def stepKeepsUptoCard : Claim7 := { stood := { row := stepKeepsUptoRow, standIns := [], harness := (true, "a90630581b47b1fd1ffb68df7bac9af68da7b215a692cb0549a43855b659ae90"), looks := true }, kinds := [], alts := [], laidByText := true, laidKinds := [.data, .data, .data, .data, .sentinel, .sentinel, .pinned], laidTests := true, laidLooks := .later }
def StepKeepsUptoCardSaid : Prop := Claim7.holds Tryz.pinned (.plain (OpenSpec.upto stepKeepsSpec)) stepKeepsUptoCard

/-- THE SECOND FORM's CARD OF 'stratumlaw15.OpStart'. -/
def opStartUptoCard : Claim7 := { stood := { row := opStartUptoRow, standIns := [], harness := (true, "a90630581b47b1fd1ffb68df7bac9af68da7b215a692cb0549a43855b659ae90"), looks := true }, kinds := [], alts := [], laidByText := true, laidKinds := [.data, .data, .data, .data, .sentinel, .sentinel, .data, .pinned], laidTests := true, laidLooks := .later }
def OpStartUptoCardSaid : Prop := Claim7.holds Tryz.pinned (.plain (OpenSpec.upto opStartSpec)) opStartUptoCard
end Rows
end Go.Proofs.YtjpfohbfklghdaaGreatDoor
