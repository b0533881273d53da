/-
  stratumlaw15.OpChecks answers true for every list of codes of bulk at most 1048576, and leaves the list as it was: the card.
  Its conditions: bulk at most 1048576; package-level variables as the program's text lays them.
-/
import Derived.Test.YtjpfohbfklghdaaGreatDoorG2
import Derived.Test.YtjpfohbfklghdaaGreatDoorG3
set_option linter.all false
set_option linter.unusedVariables false
set_option maxRecDepth 100000
namespace Go.Proofs.YtjpfohbfklghdaaGreatDoor.opChecks
open Go.ChangeShapes Go.WideShapes Go.ChangeAt Go.RowKit Go.AI

theorem nameF : Tryz.pinned.checked.prog.funcNamed Rows.opChecksUptoRow.func = some 4 := by kernel_rfl
theorem funcF : Tryz.pinned.checked.prog.funcs[4]? = some Tryz.f4 := Tryz.func4
theorem instF : Tryz.f4.isInstance Tryz.pinned.checked.prog Rows.opChecksUptoRow.origin Rows.opChecksUptoRow.targs := of_decide_eq_true (by kernel_rfl)
theorem wrapF : Tryz.f4.isWrapper Tryz.pinned.checked.prog Rows.opChecksUptoRow.wrapper Rows.opChecksUptoRow.mainSum := by unfold Func.isWrapper; first | (rw [if_pos (by decide +kernel)]; kernel_rfl) | (rw [if_neg (by decide +kernel)]; exact ⟨rfl, rfl⟩)

theorem liftedUpto (os : Os) (started : os.Started) (H : Type) (enc : TypeId × Value → H) (F : Stop.Interp) :
    ReturnsInHanded {} Tryz.checked os 4 .any ((Rows.OpenSpec.upto Rows.opChecksSpec).preRow enc Tryz.prog Tryz.f4 Rows.opChecksUptoRow.domain false Rows.opChecksUptoRow.laid) (((Rows.OpenSpec.upto Rows.opChecksSpec).at F).post enc Tryz.prog Tryz.f4 false true false false) := by
  refine returnsInHanded_of_row (C := Tryz.checked) (s := Rows.OpenSpec.upto Rows.opChecksSpec) own started noInit Tryz.func4
    (witness_row_at (enc := enc) (C := Tryz.checked) false (laidWorld os) #[.slice none 0 0] rfl (w1 os) (w2 os) (w3 os) (w4 os enc)) ?_
  intro W base args ds gs before hval hW _ hk _ hL _ _
  exact contract H enc W base args ds gs before hval hW (hk _ rfl) (met_of hL)

theorem saidUpto : Rows.OpChecksUptoSaid :=
  OpenClaim.holds_of_cond 4 Tryz.f4 rfl rfl rfl rfl rfl rfl rfl ⟨rfl, rfl, rfl, rfl, rfl⟩ rfl rfl rfl rfl rfl nameF funcF closedF instF wrapF
    (fun os started H enc _ F => by rw [OpenClaim.pre_eq_preRow]; exact liftedUpto os started H enc F)

theorem plain (f : FuncId) (fn : Func) (hf : Tryz.pinned.checked.prog.funcNamed "stratum/stratumlaw15.OpChecks" = some f) (hfn : Tryz.pinned.checked.prog.funcs[f]? = some fn) :
    true = Tryz.pinned.checked.prog.looks [] ∧ ∀ (j : Nat) t, fn.params[j]? = some t → Tryz.pinned.checked.prog.wantsStandIn t = false := by
  obtain rfl : f = 4 := Option.some.inj ((show Tryz.prog.funcNamed "stratum/stratumlaw15.OpChecks" = some 4 by kernel_rfl).symm.trans hf) |>.symm
  obtain rfl : fn = Tryz.f4 := (Option.some.inj (Tryz.func4.symm.trans hfn)).symm
  refine ⟨by kernel_rfl, fun j t ht => ?_⟩
  rw [Tryz.params4] at ht
  obtain rfl : t = 34 := by simpa using Array.mem_of_getElem? ht
  exact (show Tryz.prog.wantsStandIn 34 = false by kernel_rfl)

/-- The card. -/
theorem cardUpto : Rows.OpChecksUptoCardSaid :=
  Claim7.holds_tied_plain_at .later [] _ _ _ _ saidUpto (fun _ h => by cases h) (by kernel_rfl) (fun _ h => by cases h) opChecksUpto_row_tie rfl ⟨rfl, rfl⟩ (by kernel_rfl) rfl plain (by kernel_rfl)
#print axioms cardUpto
end Go.Proofs.YtjpfohbfklghdaaGreatDoor.opChecks
