/-
  kind.Name: empty but for 1 to 5. Conditions: those that each theorem lists (lengths far below the greatest).
-/
import Derived.Test.YtjpfohbfklghdaaGreatDoorD1
set_option linter.all false
set_option linter.unusedVariables false
set_option maxRecDepth 100000
namespace Go.AI
open Go.Proofs
def bs (l : List Nat) : ByteArray := ⟨(l.map UInt8.ofNat).toArray⟩
def filledV : AV := .agg [vi 1, vi 1, vs (bs [117,105,110,116]), vi 10, vi 1, vi 2, vs (bs [105,110,116]), vi 10, vi 1, vi 3, vs (bs [98,111,111,108]), vi 1, vi 1, vi 4, vs (bs [116,101,120,116]), vi 0, vi 1, vi 5, vs (bs [98,121,116,101,115]), vi 0]
theorem exec_ok {n : Nat} {f : FuncId} {args : List AV} {rows : List Row} {r : AV} {out : List Row} (h : exec E0 n (.fn f args rows) = some (.fn r out)) : FnOk E0 f args rows r out := (exec_sound pr0 mo0 n).fn f args rows r out h
theorem filled_ok : FnOk E0 103 [] [] filledV [] := exec_ok (n := 40) (by kernel_rfl)
set_option maxHeartbeats 4000000 in
/-- kind.Name is empty but for 1 to 5. -/
theorem kindName_ok (k : Int) : ∃ s, FnOk E0 62 [vi k] [] (vs s) [] ∧ (s.data.toList = [] ↔ ¬(1 ≤ k ∧ k ≤ 5)) := by
  suffices h : fnK E0 62 [vi k] [] (fun r out => ∃ s, r = vs s ∧ out = [] ∧ (s.data.toList = [] ↔ ¬(1 ≤ k ∧ k ≤ 5))) by
    obtain ⟨r, out, h1, s, rfl, rfl, h2⟩ := fnK_ok pr0 np0 mo0 h
    exact ⟨s, h1, h2⟩
  conv => whnf
  refine ⟨_, _, filled_ok, ⟨rfl, by decide⟩, ?_⟩
  conv => whnf
  refine loop_unroll pr0 np0 mo0 ?_
  conv => whnf
  refine br_case (fun h0 => ?_) (fun h0 => ?_)
  · conv => whnf
    refine ⟨bs [117,105,110,116], by kernel_rfl, by kernel_rfl, ?_⟩
    have h' : ((1 : Int) == k) = true := h0
    have : k = 1 := by have := eq_of_beq h'; omega
    subst this
    decide
  refine loop_unroll pr0 np0 mo0 ?_
  conv => whnf
  refine br_case (fun h1 => ?_) (fun h1 => ?_)
  · conv => whnf
    refine ⟨bs [105,110,116], by kernel_rfl, by kernel_rfl, ?_⟩
    have h' : ((2 : Int) == k) = true := h1
    have : k = 2 := by have := eq_of_beq h'; omega
    subst this
    decide
  refine loop_unroll pr0 np0 mo0 ?_
  conv => whnf
  refine br_case (fun h2 => ?_) (fun h2 => ?_)
  · conv => whnf
    refine ⟨bs [98,111,111,108], by kernel_rfl, by kernel_rfl, ?_⟩
    have h' : ((3 : Int) == k) = true := h2
    have : k = 3 := by have := eq_of_beq h'; omega
    subst this
    decide
  refine loop_unroll pr0 np0 mo0 ?_
  conv => whnf
  refine br_case (fun h3 => ?_) (fun h3 => ?_)
  · conv => whnf
    refine ⟨bs [116,101,120,116], by kernel_rfl, by kernel_rfl, ?_⟩
    have h' : ((4 : Int) == k) = true := h3
    have : k = 4 := by have := eq_of_beq h'; omega
    subst this
    decide
  refine loop_unroll pr0 np0 mo0 ?_
  conv => whnf
  refine br_case (fun h4 => ?_) (fun h4 => ?_)
  · conv => whnf
    refine ⟨bs [98,121,116,101,115], by kernel_rfl, by kernel_rfl, ?_⟩
    have h' : ((5 : Int) == k) = true := h4
    have : k = 5 := by have := eq_of_beq h'; omega
    subst this
    decide
  refine loop_unroll pr0 np0 mo0 ?_
  conv => whnf
  refine ⟨bs [], by kernel_rfl, by kernel_rfl, ?_⟩
  have n0 : ((1 : Int) == k) = false := h0
  have n1 : ((2 : Int) == k) = false := h1
  have n2 : ((3 : Int) == k) = false := h2
  have n3 : ((4 : Int) == k) = false := h3
  have n4 : ((5 : Int) == k) = false := h4
  clear h0 h1 h2 h3 h4
  simp only [beq_eq_false_iff_ne, ne_eq] at n0 n1 n2 n3 n4
  refine ⟨fun _ => by omega, fun _ => rfl⟩
end Go.AI
