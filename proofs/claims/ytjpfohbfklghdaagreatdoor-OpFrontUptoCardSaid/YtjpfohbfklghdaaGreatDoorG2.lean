/-
  stratumlaw15.OpChecks: the card of the second form.
  Its conditions: bulk at most 1048576; package-level variables as the program's text lays them.
-/
import Derived.Test.YtjpfohbfklghdaaGreatDoorG1
set_option linter.all false
set_option linter.unusedVariables false
set_option maxRecDepth 100000
namespace Go.Proofs.YtjpfohbfklghdaaGreatDoor.opChecks
open Go.ChangeShapes Go.WideShapes Go.ChangeAt Go.RowKit Go.AI

/-- A datum's cells. -/
def flatD : Nat → DataW Unit → List Value
  | 0, _ => []
  | n + 1, .lit (.int k v) => [.int k v]
  | n + 1, .agg parts => parts.flatMap (flatD n)
  | n + 1, _ => []
def lay (g : Nat) (cs : List Value) (h : Array Obj) : Array Obj := h.modify g fun
  | .cells _ t frozen => .cells cs.toArray t frozen
  | o => o
abbrev rngS : ByteArray := { data := #[118, 97, 108, 117, 101, 32, 111, 117, 116, 32, 111, 102, 32, 114, 97, 110, 103, 101] }
abbrev synS : ByteArray := { data := #[105, 110, 118, 97, 108, 105, 100, 32, 115, 121, 110, 116, 97, 120] }
noncomputable def low : Nat := (World.holding Tryz.prog default ⟨#[], #[], []⟩).heap.size

/-- A world for the witness: the settled one, the listed variables as their initialisers lay them. -/
noncomputable def laidWorld (os : Os) : World :=
  { World.holding Tryz.prog os ⟨#[.cells #[.string rngS] 293, .cells #[.string synS] 293], #[], []⟩ with
    heap := lay 0 (flatD 3 Rows.laid_stratum_op_operands) (lay 2 (flatD 3 Rows.laid_internal_strconv_uint64pow10) (lay 5 (flatD 3 Rows.laid_math_bits_deBruijn32tab) (lay 6 (flatD 3 Rows.laid_math_bits_deBruijn64tab)
      (lay 7 (flatD 3 Rows.laid_unicode_utf8_first) (lay 8 (flatD 3 Rows.laid_unicode_utf8_acceptRanges) (lay 3 [.iface 291 (.pointer (some ⟨low + 1, 0, none⟩))] (lay 4 [.iface 291 (.pointer (some ⟨low, 0, none⟩))]
        (World.holding Tryz.prog os ⟨#[.cells #[.string rngS] 293, .cells #[.string synS] 293], #[], []⟩).heap))))))) }
theorem laid_met (os : Os) : laidMet Tryz.prog Rows.opChecksUptoRow.laid ((laidWorld os).forCall (fun _ _ => 0) ⟨#[], #[.slice none 0 0], []⟩).memory :=
  laidMet_of_run' 8 (by kernel_rfl) (by kernel_rfl)
theorem reads (os : Os) {H : Type} (enc : TypeId × Value → H) : ∃ places, DataW.whole enc Tryz.prog ((laidWorld os).forCall (fun _ _ => 0) ⟨#[], #[.slice none 0 0], []⟩).memory Tryz.f4.params.toList Rows.opChecksSpec.vars false #[Value.slice none 0 0].toList 8 = some ([.nil], [], places) :=
  ⟨[], by kernel_rfl⟩

theorem w1 (os : Os) : ((laidWorld os).forCall (fun _ _ => 0) ⟨#[], #[.slice none 0 0], []⟩).variablesB Tryz.checked.prog = true := by kernel_rfl
theorem w2 (os : Os) : (((laidWorld os).forCall (fun _ _ => 0) ⟨#[], #[.slice none 0 0], []⟩).heap.toList.drop Tryz.checked.prog.globals.size).take ((begin Tryz.checked.prog (fun _ _ => 0) default).world.heap.size - Tryz.checked.prog.globals.size) =
      (begin Tryz.checked.prog (fun _ _ => 0) default).world.heap.toList.drop Tryz.checked.prog.globals.size := by kernel_rfl
theorem w3 (os : Os) : Input.okWideB Tryz.checked.prog ((laidWorld os).forCall (fun _ _ => 0) ⟨#[], #[.slice none 0 0], []⟩) 4 ⟨#[], #[.slice none 0 0], []⟩ = true := by kernel_rfl
theorem noHandle : (Rows.opChecksUptoRow.laid.filter fun x => x.2.handleName?.isSome) = [] := by kernel_rfl
theorem met_of {W : World} (h : laidMetH Tryz.prog Rows.opChecksUptoRow.laid W) : laidMet Tryz.prog Rows.opChecksUptoRow.laid W := by
  unfold laidMetH at h
  rw [noHandle] at h
  exact h
theorem w4 (os : Os) {H : Type} (enc : TypeId × Value → H) : (Rows.OpenSpec.upto Rows.opChecksSpec).preRow enc Tryz.checked.prog Tryz.f4 Rows.opChecksUptoRow.domain false Rows.opChecksUptoRow.laid ((laidWorld os).forCall (fun _ _ => 0) ⟨#[], #[.slice none 0 0], []⟩).memory #[.slice none 0 0] := by
  obtain ⟨places, hx⟩ := reads os enc
  exact OpenSpec.preRow_of_cond 8 hx (by kernel_rfl) (fun k hk => by cases hk; kernel_rfl) (by kernel_rfl) (laid_met os)
theorem noInit : Tryz.checked.prog.inits.idxOf? 4 = none := by kernel_rfl
end Go.Proofs.YtjpfohbfklghdaaGreatDoor.opChecks
