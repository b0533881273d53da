/-
  stratumlaw15.OpFront answers true for every code and number of bulk at most 1048576, and leaves them as they were: the card.
  Its conditions: bulk at most 1048576; package-level variables as the program's text lays them.
-/
import Derived.Test.YtjpfohbfklghdaaGreatDoorH2
import Derived.Test.YtjpfohbfklghdaaGreatDoorH3
set_option linter.all false
set_option maxRecDepth 100000
namespace Go.Proofs.YtjpfohbfklghdaaGreatDoor.opFront
open Go.ChangeShapes Go.WideShapes Go.ChangeAt Go.RowKit Go.AI
open Go.Proofs.YtjpfohbfklghdaaGreatDoor.opChecks (own laidWorld met_of)

theorem nameF : Tryz.pinned.checked.prog.funcNamed Rows.opFrontUptoRow.func = some 8 := by kernel_rfl
theorem funcF : Tryz.pinned.checked.prog.funcs[8]? = some Tryz.f8 := Tryz.func8
theorem instF : Tryz.f8.isInstance Tryz.pinned.checked.prog Rows.opFrontUptoRow.origin Rows.opFrontUptoRow.targs := of_decide_eq_true (by kernel_rfl)
theorem wrapF : Tryz.f8.isWrapper Tryz.pinned.checked.prog Rows.opFrontUptoRow.wrapper Rows.opFrontUptoRow.mainSum := by unfold Func.isWrapper; first | (rw [if_pos (by decide +kernel)]; kernel_rfl) | (rw [if_neg (by decide +kernel)]; exact ⟨rfl, rfl⟩)

theorem liftedUpto (os : Os) (started : os.Started) (H : Type) (enc : TypeId × Value → H) (F : Stop.Interp) :
    ReturnsInHanded {} Tryz.checked os 8 .any ((Rows.OpenSpec.upto Rows.opFrontSpec).preRow enc Tryz.prog Tryz.f8 Rows.opFrontUptoRow.domain false Rows.opFrontUptoRow.laid) (((Rows.OpenSpec.upto Rows.opFrontSpec).at F).post enc Tryz.prog Tryz.f8 false true false false) := by
  refine returnsInHanded_of_row (C := Tryz.checked) (s := Rows.OpenSpec.upto Rows.opFrontSpec) own started noInit Tryz.func8
    (witness_row_at (enc := enc) (C := Tryz.checked) false (laidWorld os) argsW rfl (w1 os) (w2 os) (w3 os) (w4 os enc)) ?_
  intro W base args ds gs before hval hW _ hk _ hL _ _
  exact contract H enc W base args ds gs before hval hW (hk _ rfl) (met_of hL)

theorem saidUpto : Rows.OpFrontUptoSaid :=
  OpenClaim.holds_of_cond 8 Tryz.f8 rfl rfl rfl rfl rfl rfl rfl ⟨rfl, rfl, rfl, rfl, rfl⟩ rfl rfl rfl rfl rfl nameF funcF closedF instF wrapF
    (fun os started H enc _ F => by rw [OpenClaim.pre_eq_preRow]; exact liftedUpto os started H enc F)

theorem plain (f : FuncId) (fn : Func) (hf : Tryz.pinned.checked.prog.funcNamed "stratum/stratumlaw15.OpFront" = some f) (hfn : Tryz.pinned.checked.prog.funcs[f]? = some fn) :
    true = Tryz.pinned.checked.prog.looks [] ∧ ∀ (j : Nat) t, fn.params[j]? = some t → Tryz.pinned.checked.prog.wantsStandIn t = false := by
  obtain rfl : f = 8 := Option.some.inj ((show Tryz.prog.funcNamed "stratum/stratumlaw15.OpFront" = some 8 by kernel_rfl).symm.trans hf) |>.symm
  obtain rfl : fn = Tryz.f8 := (Option.some.inj (Tryz.func8.symm.trans hfn)).symm
  refine ⟨by kernel_rfl, fun j t ht => ?_⟩
  rw [Tryz.params8] at ht
  have : t = 26 ∨ t = 3 := by simpa using Array.mem_of_getElem? ht
  rcases this with rfl | rfl
  · exact (show Tryz.prog.wantsStandIn 26 = false by kernel_rfl)
  · exact (show Tryz.prog.wantsStandIn 3 = false by kernel_rfl)

/-- The card. -/
theorem cardUpto : Rows.OpFrontUptoCardSaid :=
  Claim7.holds_tied_plain_at .later [] _ _ _ _ saidUpto (fun _ h => by cases h) (by kernel_rfl) (fun _ h => by cases h) opFrontUpto_row_tie rfl ⟨rfl, rfl⟩ (by kernel_rfl) rfl plain (by kernel_rfl)
#print axioms cardUpto
end Go.Proofs.YtjpfohbfklghdaaGreatDoor.opFront
