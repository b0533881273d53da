/-
  The program of this seat, to be walked by the machine of values.
-/
import Derived.Test.YtjpfohbfklghdaaGreatDoorProg
import Derived.Test.YtjpfohbfklghdaaGreatDoorC5
import Derived.Test.YtjpfohbfklghdaaGreatDoorU1
import Derived.KernelRfl
set_option linter.all false
set_option linter.unusedVariables false
set_option maxRecDepth 100000
namespace Go.AI
open Go.Proofs

/-- What stands in op's list of operands. -/
def operandsC : List AV := [vi 0, vi 1, vi 8, vi 3, vi 5, vi 5, vi 7]
noncomputable def E0 : Env := { P := Tryz.prog, G := fun g => if g = 0 then some operandsC else none, byRef := fun f => f == 177 || f == 204, prim := fun _ => none }
theorem pr0 : PrimOk E0 := ⟨(fun f p h => by cases h), (fun f p h => by cases h), (fun f p h => by cases h), (fun f p h => by cases h)⟩
theorem np0 : ∀ f, E0.prim f = none := fun _ => rfl
theorem mo0 : E0.P.follows .mixedOrders = true := by kernel_rfl

theorem fn_ok {f : FuncId} {args : List AV} {rows : List Row} {r : AV} {out : List Row} (h : fnK E0 f args rows (fun r' out' => r' = r ∧ out' = out)) : FnOk E0 f args rows r out := by
  obtain ⟨r', out', h1, rfl, rfl⟩ := fnK_ok pr0 np0 mo0 h
  exact h1


/-- op.tag -/
theorem tag_ok (a b : Int) : FnOk E0 61 [vi a, vi b] [] (vb (decide (a > b) && decide (a ≤ 65535))) [] := by
  apply fn_ok
  conv => whnf
  refine br_case (fun h => ?_) (fun h => ?_) <;> rw [h] <;> (conv => whnf) <;> exact ⟨rfl, rfl⟩

end Go.AI
