/-
  stratumlaw15.OpFront: an input that fits.
  Its conditions: none.
-/
import Derived.Test.YtjpfohbfklghdaaGreatDoorH1
import Derived.Test.YtjpfohbfklghdaaGreatDoorG2
set_option linter.all false
set_option maxRecDepth 100000
namespace Go.Proofs.YtjpfohbfklghdaaGreatDoor.opFront
open Go.ChangeShapes Go.WideShapes Go.ChangeAt Go.RowKit Go.AI
open Go.Proofs.YtjpfohbfklghdaaGreatDoor.opChecks (own laidWorld met_of)
abbrev argsW : Array Value := #[.agg #[.slice none 0 0, .slice none 0 0, .slice none 0 0], .int .i64 0]
theorem laid_met (os : Os) : laidMet Tryz.prog Rows.opFrontUptoRow.laid ((laidWorld os).forCall (fun _ _ => 0) ⟨#[], argsW, []⟩).memory :=
  laidMet_of_run' 8 (by kernel_rfl) (by kernel_rfl)
theorem reads (os : Os) {H : Type} (enc : TypeId × Value → H) : ∃ places, DataW.whole enc Tryz.prog ((laidWorld os).forCall (fun _ _ => 0) ⟨#[], argsW, []⟩).memory Tryz.f8.params.toList Rows.opFrontSpec.vars false argsW.toList 8 = some ([.agg [.nil, .nil, .nil], .lit (.int .i64 0)], [], places) :=
  ⟨[], by kernel_rfl⟩
theorem w1 (os : Os) : ((laidWorld os).forCall (fun _ _ => 0) ⟨#[], argsW, []⟩).variablesB Tryz.checked.prog = true := by kernel_rfl
theorem w2 (os : Os) : (((laidWorld os).forCall (fun _ _ => 0) ⟨#[], argsW, []⟩).heap.toList.drop Tryz.checked.prog.globals.size).take ((begin Tryz.checked.prog (fun _ _ => 0) default).world.heap.size - Tryz.checked.prog.globals.size) =
      (begin Tryz.checked.prog (fun _ _ => 0) default).world.heap.toList.drop Tryz.checked.prog.globals.size := by kernel_rfl
theorem w3 (os : Os) : Input.okWideB Tryz.checked.prog ((laidWorld os).forCall (fun _ _ => 0) ⟨#[], argsW, []⟩) 8 ⟨#[], argsW, []⟩ = true := by kernel_rfl
theorem w4 (os : Os) {H : Type} (enc : TypeId × Value → H) : (Rows.OpenSpec.upto Rows.opFrontSpec).preRow enc Tryz.checked.prog Tryz.f8 Rows.opFrontUptoRow.domain false Rows.opFrontUptoRow.laid ((laidWorld os).forCall (fun _ _ => 0) ⟨#[], argsW, []⟩).memory argsW := by
  obtain ⟨places, hx⟩ := reads os enc
  exact OpenSpec.preRow_of_cond 8 hx (by kernel_rfl) (fun k hk => by cases hk; kernel_rfl) (by kernel_rfl) (laid_met os)
theorem noInit : Tryz.checked.prog.inits.idxOf? 8 = none := by kernel_rfl
end Go.Proofs.YtjpfohbfklghdaaGreatDoor.opFront
