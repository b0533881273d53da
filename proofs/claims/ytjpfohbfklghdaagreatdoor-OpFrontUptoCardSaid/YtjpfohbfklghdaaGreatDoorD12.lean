/-
  kind.Text, the kind of an earlier value, ref15.text. Conditions: those that each theorem lists (lengths far below the greatest).
-/
import Derived.Test.YtjpfohbfklghdaaGreatDoorD11
set_option linter.all false
set_option linter.unusedVariables false
set_option maxRecDepth 100000
namespace Go.AI
open Go.Proofs
attribute [local irreducible] callK leave

theorem ktext_ok : FnOk E0 105 [] [] (vi 4) [] := exec_ok (n := 5) (by kernel_rfl)

theorem at_vi' {l : List Int} {a : Int} {x : Int} (h : l[a.toNat]? = some x) : (List.drop (a.toNat * 1) (l.map vi))[0]? = some (vi x) := by
  simp [h]
theorem leave_in1 {r : AV} {rows : Rows} {q : Row} (h : idsV r = []) (hq : rows 0 = some q) (hn : idsL q.cells = []) : leave 1 r rows = some (r, [q]) := by
  unfold leave
  have e : idsR rows 0 = [] := by simp only [idsR, hq, hn]; split <;> rfl
  have hr : reach rows 100000 (List.range 1) ((List.range 1).flatMap (idsR rows) ++ idsV r) = some [0] := by
    simp only [List.range_succ, List.range_zero, List.nil_append, List.flatMap_cons, List.flatMap_nil, e, h, List.append_nil]
    simp [reach]
  simp only [hr, rowsAt, hq, ren_none _ r h, List.map_cons, List.map_nil]
  cases q
  simp only [renR] at *
  rw [renL_none _ _ hn]
theorem atS_of {l : List Int} {a x : Int} (h0 : 0 ≤ a) (h : l[a.toNat]? = some x) : atS l a = x := by
  have hl : a.toNat < l.length := (List.getElem?_eq_some_iff.1 h).1
  rw [atS, if_pos ⟨h0, by omega⟩, List.getD_eq_getElem?_getD, h]; rfl
theorem atS_out {l : List Int} {a : Int} (h0 : ¬(0 ≤ a ∧ a < l.length)) : atS l a = 0 := by rw [atS, if_neg h0]

/-- The kind of an earlier value. -/
theorem at_ok (ks : List Int) (i : Int) : FnOk E0 104 [vi i, .ptr 0 0] [⟨[.ext (ks.map vi) ks.length], .is 36, true⟩] (vi (atS ks i)) [⟨[.ext (ks.map vi) ks.length], .is 36, true⟩] := by
  apply fn_ok
  conv => whnf
  refine br_case (fun h => ?_) (fun h => ?_) <;> rw [h]
  · have h' : i < 0 := of_decide_eq_true h
    conv => whnf
    refine bindP_of (leave_in1 (by rfl) (by rfl) (by rfl)) ⟨?_, rfl⟩
    rw [atS_out (by omega)]; rfl
  have h' : ¬ i < 0 := of_decide_eq_false h
  conv => whnf
  refine br_case (fun h1 => ?_) (fun h1 => ?_)
  · have h1' : i ≥ (ks.length : Nat) := of_decide_eq_true h1
    conv => whnf
    refine bindP_of (leave_in1 (by rfl) (by rfl) (by rfl)) ⟨?_, rfl⟩
    rw [atS_out (by omega)]; rfl
  have h1' : ¬ i ≥ (ks.length : Nat) := of_decide_eq_false h1
  obtain ⟨x, hx⟩ : ∃ x, ks[i.toNat]? = some x := ⟨_, List.getElem?_eq_getElem (by omega)⟩
  conv => whnf
  refine br_case (fun h2 => ?_) (fun h2 => absurd (show 0 ≤ i ∧ i < (ks.length : Nat) from ⟨by omega, by omega⟩) (of_decide_eq_false h2))
  conv => whnf
  generalize hq : (List.drop _ _)[0]? = q
  obtain rfl : q = some (vi x) := hq.symm.trans (at_vi' hx)
  clear hq
  conv => whnf
  refine bindP_of (leave_in1 (by rfl) (by rfl) (by rfl)) ⟨?_, rfl⟩
  rw [atS_of (by omega) hx]; rfl

/-- Is an earlier value a text? -/
theorem rtext_ok (ks : List Int) (a : Int) : FnOk E0 114 [.ext (ks.map vi) ks.length, vi a, vi ks.length] [] (vb (atS ks a == 4)) [] := by
  apply fn_ok
  conv => whnf
  refine br_case (fun h => ?_) (fun h => ?_) <;> rw [h]
  · have h' : a ≥ 0 := of_decide_eq_true h
    conv => whnf
    refine br_case (fun h1 => ?_) (fun h1 => ?_) <;> rw [h1]
    · have h1' : a < (ks.length : Nat) := of_decide_eq_true h1
      obtain ⟨x, hx⟩ : ∃ x, ks[a.toNat]? = some x := ⟨_, List.getElem?_eq_getElem (by omega)⟩
      conv => whnf
      refine br_case (fun h2 => ?_) (fun h2 => absurd (show 0 ≤ a ∧ a < (ks.length : Nat) from ⟨by omega, by omega⟩) (of_decide_eq_false h2))
      conv => whnf
      generalize hq : (List.drop _ _)[0]? = q
      obtain rfl : q = some (vi x) := hq.symm.trans (at_vi' hx)
      clear hq
      conv => whnf
      refine ends (by rfl) ?_
      rw [atS_of (by omega) hx]; rfl
    · have h1' : ¬ a < (ks.length : Nat) := of_decide_eq_false h1
      conv => whnf
      refine ends (by rfl) ?_
      rw [atS_out (by omega)]; rfl
  · have h' : ¬ a ≥ 0 := of_decide_eq_false h
    conv => whnf
    refine ends (by rfl) ?_
    rw [atS_out (by omega)]; rfl

end Go.AI
