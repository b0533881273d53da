/-
  kind.Valid, ref04.Valid: whether it is a value. Conditions: those that each theorem lists (lengths far below the greatest).
-/
import Derived.Test.YtjpfohbfklghdaaGreatDoorD9
set_option linter.all false
set_option linter.unusedVariables false
set_option maxRecDepth 100000
namespace Go.AI
open Go.Proofs
attribute [local irreducible] callK leave nextU validU

theorem eqk {k n : Int} (h : (k == n) = true) : k = n := eq_of_beq h
theorem nek {k n : Int} (h : (k == n) = false) : k ≠ n := by simpa using h

theorem kvalid_ok (v : Vl) (hs : v.s.size < 4611686018427387904) : FnOk E0 86 [.agg (vlC v)] [] (vb (validS v)) [] := by
  apply fn_ok
  conv => whnf
  refine br_case (fun h1 => ?_) (fun h1 => ?_) <;> rw [h1]
  · have e : v.kind = 1 := eqk h1
    conv => whnf
    refine ends (by rfl) ?_
    rw [validS, if_pos (.inl e)]; rfl
  have n1 : v.kind ≠ 1 := nek h1
  conv => whnf
  refine br_case (fun h2 => ?_) (fun h2 => ?_) <;> rw [h2]
  · have e : v.kind = 2 := eqk h2
    conv => whnf
    refine ends (by rfl) ?_
    rw [validS, if_pos (.inr e)]; rfl
  have n2 : v.kind ≠ 2 := nek h2
  conv => whnf
  refine br_case (fun h3 => ?_) (fun h3 => ?_) <;> rw [h3]
  · have e : v.kind = 3 := eqk h3
    conv => whnf
    refine br_case (fun h4 => ?_) (fun h4 => ?_) <;> rw [h4]
    · have h4' : v.n ≤ 1 := of_decide_eq_true h4
      conv => whnf
      refine ends (by rfl) ?_
      rw [validS, if_neg (by omega), if_pos e, decide_eq_true h4']; rfl
    · have h4' : ¬ v.n ≤ 1 := of_decide_eq_false h4
      conv => whnf
      refine ends (by rfl) ?_
      rw [validS, if_neg (by omega), if_pos e, decide_eq_false h4']; rfl
  have n3 : v.kind ≠ 3 := nek h3
  conv => whnf
  refine br_case (fun h5 => ?_) (fun h5 => ?_) <;> rw [h5]
  · have e : v.kind = 4 := eqk h5
    conv => whnf
    refine br_case (fun h4 => ?_) (fun h4 => ?_) <;> rw [h4]
    · have h4' : (v.n == 0) = true := h4
      conv => whnf
      refine callK0 (by kernel_rfl) rfl rfl (by rfl) (valid_ok v.s hs) rfl ?_
      conv => whnf
      refine ends (by rfl) ?_
      rw [validS, if_neg (by omega), if_neg n3, if_pos e, h4']; rfl
    · have h4' : (v.n == 0) = false := h4
      conv => whnf
      refine ends (by rfl) ?_
      rw [validS, if_neg (by omega), if_neg n3, if_pos e, h4']; rfl
  have n4 : v.kind ≠ 4 := nek h5
  conv => whnf
  refine br_case (fun h6 => ?_) (fun h6 => ?_) <;> rw [h6]
  · have e : v.kind = 5 := eqk h6
    conv => whnf
    refine ends (by rfl) ?_
    rw [validS, if_neg (by omega), if_neg n3, if_neg n4, if_pos e]; rfl
  have n5 : v.kind ≠ 5 := nek h6
  conv => whnf
  refine ends (by rfl) ?_
  rw [validS, if_neg (by omega), if_neg n3, if_neg n4, if_neg n5]; rfl

theorem rkvalid_ok (v : Vl) (hs : v.s.size < 4611686018427387904) : FnOk E0 111 [.agg (vlC v)] [] (vb (validS v)) [] := by
  apply fn_ok
  conv => whnf
  refine br_case (fun h1 => ?_) (fun h1 => ?_) <;> rw [h1]
  · have e : v.kind = 1 := eqk h1
    conv => whnf
    refine ends (by rfl) ?_
    rw [validS, if_pos (.inl e)]; rfl
  have n1 : v.kind ≠ 1 := nek h1
  conv => whnf
  refine br_case (fun h2 => ?_) (fun h2 => ?_) <;> rw [h2]
  · have e : v.kind = 2 := eqk h2
    conv => whnf
    refine ends (by rfl) ?_
    rw [validS, if_pos (.inr e)]; rfl
  have n2 : v.kind ≠ 2 := nek h2
  conv => whnf
  refine br_case (fun h3 => ?_) (fun h3 => ?_) <;> rw [h3]
  · have e : v.kind = 3 := eqk h3
    conv => whnf
    refine br_case (fun h4 => ?_) (fun h4 => ?_) <;> rw [h4]
    · have h4' : eB v.s = true := h4
      conv => whnf
      refine ends (by rfl) ?_
      rw [validS, if_neg (by omega), if_pos e, h4', Bool.and_true]; rfl
    · have h4' : eB v.s = false := h4
      conv => whnf
      refine ends (by rfl) ?_
      rw [validS, if_neg (by omega), if_pos e, h4', Bool.and_false]; rfl
  have n3 : v.kind ≠ 3 := nek h3
  conv => whnf
  refine br_case (fun h5 => ?_) (fun h5 => ?_) <;> rw [h5]
  · have e : v.kind = 4 := eqk h5
    conv => whnf
    refine br_case (fun h4 => ?_) (fun h4 => ?_) <;> rw [h4]
    · have h4' : (v.n == 0) = true := h4
      conv => whnf
      refine callK0 (by kernel_rfl) rfl rfl (by rfl) (rvalid_ok v.s hs) rfl ?_
      conv => whnf
      refine ends (by rfl) ?_
      rw [validS, if_neg (by omega), if_neg n3, if_pos e, h4']; rfl
    · have h4' : (v.n == 0) = false := h4
      conv => whnf
      refine ends (by rfl) ?_
      rw [validS, if_neg (by omega), if_neg n3, if_pos e, h4']; rfl
  have n4 : v.kind ≠ 4 := nek h5
  conv => whnf
  refine br_case (fun h6 => ?_) (fun h6 => ?_) <;> rw [h6]
  · have e : v.kind = 5 := eqk h6
    conv => whnf
    refine ends (by rfl) ?_
    rw [validS, if_neg (by omega), if_neg n3, if_neg n4, if_pos e]; rfl
  have n5 : v.kind ≠ 5 := nek h6
  conv => whnf
  refine ends (by rfl) ?_
  rw [validS, if_neg (by omega), if_neg n3, if_neg n4, if_neg n5]; rfl

end Go.AI
