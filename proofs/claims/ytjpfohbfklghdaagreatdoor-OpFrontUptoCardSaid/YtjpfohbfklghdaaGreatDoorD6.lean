/-
  ref03.Put: a character's bytes. Conditions: those that each theorem lists (lengths far below the greatest).
-/
import Derived.Test.YtjpfohbfklghdaaGreatDoorD5
set_option linter.all false
set_option linter.unusedVariables false
set_option maxRecDepth 100000
namespace Go.AI
open Go.Proofs
attribute [local irreducible] callK leave

def w6 (x : Int) : Int := IntKind.i64.wrap (128 + x)
def putL (c : Int) : List UInt8 :=
  if c < 0 ∨ c > 1114111 ∨ (c ≥ 55296 ∧ c ≤ 57343) then [] else
  if c < 128 then [ub c] else
  if c < 2048 then [ub (IntKind.i64.wrap (192 + IntKind.i64.wrap (c.tdiv 64))), ub (w6 (c.tmod 64))] else
  if c < 65536 then [ub (IntKind.i64.wrap (224 + IntKind.i64.wrap (c.tdiv 4096))), ub (w6 ((IntKind.i64.wrap (c.tdiv 64)).tmod 64)), ub (w6 (c.tmod 64))] else
  [ub (IntKind.i64.wrap (240 + IntKind.i64.wrap (c.tdiv 262144))), ub (w6 ((IntKind.i64.wrap (c.tdiv 4096)).tmod 64)), ub (w6 ((IntKind.i64.wrap (c.tdiv 64)).tmod 64)), ub (w6 (c.tmod 64))]

/-- ref03.Put -/
theorem put_ok (c : Int) : FnOk E0 240 [vi c] [] (vs ⟨⟨putL c⟩⟩) [] := by
  apply fn_ok
  conv => whnf
  refine br_case (fun h0 => ?_) (fun h0 => ?_) <;> rw [h0]
  · have h0' : c < 0 := of_decide_eq_true h0
    conv => whnf
    refine ends (by rfl) ?_
    show vs ⟨⟨[]⟩⟩ = _
    rw [putL, if_pos (.inl h0')]
  have h0' : ¬ c < 0 := of_decide_eq_false h0
  conv => whnf
  refine br_case (fun h1 => ?_) (fun h1 => ?_) <;> rw [h1]
  · have h1' : c > 1114111 := of_decide_eq_true h1
    conv => whnf
    refine ends (by rfl) ?_
    show vs ⟨⟨[]⟩⟩ = _
    rw [putL, if_pos (.inr (.inl h1'))]
  have h1' : ¬ c > 1114111 := of_decide_eq_false h1
  conv => whnf
  refine br_case (fun h2 => ?_) (fun h2 => ?_) <;> rw [h2]
  · have h2' : c ≥ 55296 := of_decide_eq_true h2
    conv => whnf
    refine br_case (fun h3 => ?_) (fun h3 => ?_)
    · have h3' : c ≤ 57343 := of_decide_eq_true h3
      conv => whnf
      refine ends (by rfl) ?_
      show vs ⟨⟨[]⟩⟩ = _
      rw [putL, if_pos (.inr (.inr ⟨h2', h3'⟩))]
    have h3' : ¬ c ≤ 57343 := of_decide_eq_false h3
    conv => whnf
    refine br_case (fun h4 => absurd (show c < 128 from of_decide_eq_true h4) (by omega)) (fun h4 => ?_)
    conv => whnf
    refine br_case (fun h5 => absurd (show c < 2048 from of_decide_eq_true h5) (by omega)) (fun h5 => ?_)
    conv => whnf
    refine br_case (fun h6 => ?_) (fun h6 => ?_)
    · have h6' : c < 65536 := of_decide_eq_true h6
      conv => whnf
      refine ends (by rfl) ?_
      rw [putL, if_neg (by omega), if_neg (by omega), if_neg (by omega), if_pos h6']
      rfl
    · have h6' : ¬ c < 65536 := of_decide_eq_false h6
      conv => whnf
      refine ends (by rfl) ?_
      rw [putL, if_neg (by omega), if_neg (by omega), if_neg (by omega), if_neg h6']
      rfl
  have h2' : ¬ c ≥ 55296 := of_decide_eq_false h2
  conv => whnf
  refine br_case (fun h4 => ?_) (fun h4 => ?_)
  · have h4' : c < 128 := of_decide_eq_true h4
    conv => whnf
    refine ends (by rfl) ?_
    rw [putL, if_neg (by omega), if_pos h4']
    rfl
  have h4' : ¬ c < 128 := of_decide_eq_false h4
  conv => whnf
  refine br_case (fun h5 => ?_) (fun h5 => ?_)
  · have h5' : c < 2048 := of_decide_eq_true h5
    conv => whnf
    refine ends (by rfl) ?_
    rw [putL, if_neg (by omega), if_neg h4', if_pos h5']
    rfl
  have h5' : ¬ c < 2048 := of_decide_eq_false h5
  conv => whnf
  refine br_case (fun h6 => ?_) (fun h6 => ?_)
  · have h6' : c < 65536 := of_decide_eq_true h6
    conv => whnf
    refine ends (by rfl) ?_
    rw [putL, if_neg (by omega), if_neg h4', if_neg h5', if_pos h6']
    rfl
  · have h6' : ¬ c < 65536 := of_decide_eq_false h6
    omega
end Go.AI
