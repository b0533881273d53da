/-
  conv.From, To, ref06.From, To: the kinds of a conversion. Conditions: those that each theorem lists (lengths far below the greatest).
-/
import Derived.Test.YtjpfohbfklghdaaGreatDoorD10
set_option linter.all false
set_option linter.unusedVariables false
set_option maxRecDepth 100000
namespace Go.AI
open Go.Proofs
attribute [local irreducible] callK leave

def conversion (a b : Int) (q : Bool) (f : Nat) : List AV := [vi a, vi b, vb q, .fn f []]
def tableC : List AV := conversion 1 2 false 205 ++ conversion 2 1 false 207 ++ conversion 1 4 true 208 ++ conversion 2 4 true 211 ++ conversion 4 1 false 213 ++ conversion 4 2 false 216 ++ conversion 3 4 true 219 ++ conversion 4 3 false 221 ++ conversion 3 1 true 222 ++ conversion 1 3 false 223 ++ conversion 4 5 true 225 ++ conversion 5 4 false 226
/-- conv.table -/
theorem table_ok : FnOk E0 143 [] [] (.sl 0 0 12 4) [⟨tableC, .is 129, true⟩] := exec_ok (n := 60) (by kernel_rfl)

/-- conv.of, of a number that is none. -/
theorem of_none (n : Int) (hn : n < 1 ∨ n > 12) : FnOk E0 85 [vi n] [] (.tup [.agg [vi 0, vi 0, vb false, .val .nilFunc], vb false]) [] := by
  apply fn_ok
  conv => whnf
  refine callK0 (by kernel_rfl) rfl rfl (by rfl) table_ok (by rfl) ?_
  conv => whnf
  refine br_case (fun h => ?_) (fun h => ?_) <;> rw [h]
  · conv => whnf
    refine ends (by rfl) ?_
    rfl
  have h' : ¬ n < 1 := of_decide_eq_false h
  conv => whnf
  refine br_case (fun h => ?_) (fun h => absurd (show n > 12 by omega) (of_decide_eq_false h)) <;> rw [h]
  conv => whnf
  refine ends (by rfl) ?_
  rfl

/-- ref06.kinds, of a number that is none. -/
theorem rkinds_none (n : Int) (hn : n < 1 ∨ n > 12) : FnOk E0 162 [vi n] [] (.tup [vi 0, vi 0]) [] := by
  apply fn_ok
  conv => whnf
  refine br_case (fun h => ?_) (fun h => ?_) <;> rw [h]
  · conv => whnf
    refine ends (by rfl) ?_
    rfl
  have h' : ¬ n < 1 := of_decide_eq_false h
  conv => whnf
  refine br_case (fun h => ?_) (fun h => absurd (show n > 12 by omega) (of_decide_eq_false h)) <;> rw [h]
  conv => whnf
  refine ends (by rfl) ?_
  rfl

theorem from_ok (n : Int) : FnOk E0 106 [vi n] [] (vi (fromS n)) [] := by
  by_cases hn : n < 1 ∨ n > 12
  · have e : fromS n = 0 := by rw [fromS, if_neg (by omega)]
    rw [e]
    apply fn_ok
    conv => whnf
    refine callK0 (by kernel_rfl) rfl rfl (by rfl) (of_none n hn) rfl ?_
    conv => whnf
    refine ends (by rfl) ?_
    rfl
  · have h : n = 1 ∨ n = 2 ∨ n = 3 ∨ n = 4 ∨ n = 5 ∨ n = 6 ∨ n = 7 ∨ n = 8 ∨ n = 9 ∨ n = 10 ∨ n = 11 ∨ n = 12 := by omega
    rcases h with rfl | rfl | rfl | rfl | rfl | rfl | rfl | rfl | rfl | rfl | rfl | rfl <;> exact exec_ok (n := 70) (by kernel_rfl)

theorem to_ok (n : Int) : FnOk E0 107 [vi n] [] (vi (toS n)) [] := by
  by_cases hn : n < 1 ∨ n > 12
  · have e : toS n = 0 := by rw [toS, if_neg (by omega)]
    rw [e]
    apply fn_ok
    conv => whnf
    refine callK0 (by kernel_rfl) rfl rfl (by rfl) (of_none n hn) rfl ?_
    conv => whnf
    refine ends (by rfl) ?_
    rfl
  · have h : n = 1 ∨ n = 2 ∨ n = 3 ∨ n = 4 ∨ n = 5 ∨ n = 6 ∨ n = 7 ∨ n = 8 ∨ n = 9 ∨ n = 10 ∨ n = 11 ∨ n = 12 := by omega
    rcases h with rfl | rfl | rfl | rfl | rfl | rfl | rfl | rfl | rfl | rfl | rfl | rfl <;> exact exec_ok (n := 70) (by kernel_rfl)

theorem rfrom_ok (n : Int) : FnOk E0 112 [vi n] [] (vi (fromS n)) [] := by
  by_cases hn : n < 1 ∨ n > 12
  · have e : fromS n = 0 := by rw [fromS, if_neg (by omega)]
    rw [e]
    apply fn_ok
    conv => whnf
    refine callK0 (by kernel_rfl) rfl rfl (by rfl) (rkinds_none n hn) rfl ?_
    conv => whnf
    refine ends (by rfl) ?_
    rfl
  · have h : n = 1 ∨ n = 2 ∨ n = 3 ∨ n = 4 ∨ n = 5 ∨ n = 6 ∨ n = 7 ∨ n = 8 ∨ n = 9 ∨ n = 10 ∨ n = 11 ∨ n = 12 := by omega
    rcases h with rfl | rfl | rfl | rfl | rfl | rfl | rfl | rfl | rfl | rfl | rfl | rfl <;> exact exec_ok (n := 70) (by kernel_rfl)

theorem rto_ok (n : Int) : FnOk E0 113 [vi n] [] (vi (toS n)) [] := by
  by_cases hn : n < 1 ∨ n > 12
  · have e : toS n = 0 := by rw [toS, if_neg (by omega)]
    rw [e]
    apply fn_ok
    conv => whnf
    refine callK0 (by kernel_rfl) rfl rfl (by rfl) (rkinds_none n hn) rfl ?_
    conv => whnf
    refine ends (by rfl) ?_
    rfl
  · have h : n = 1 ∨ n = 2 ∨ n = 3 ∨ n = 4 ∨ n = 5 ∨ n = 6 ∨ n = 7 ∨ n = 8 ∨ n = 9 ∨ n = 10 ∨ n = 11 ∨ n = 12 := by omega
    rcases h with rfl | rfl | rfl | rfl | rfl | rfl | rfl | rfl | rfl | rfl | rfl | rfl <;> exact exec_ok (n := 70) (by kernel_rfl)

end Go.AI
