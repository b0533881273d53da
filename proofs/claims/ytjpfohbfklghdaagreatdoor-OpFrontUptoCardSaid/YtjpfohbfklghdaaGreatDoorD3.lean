/-
  law15.ints: the same numbers. Conditions: those that each theorem lists (lengths far below the greatest).
-/
import Derived.Test.YtjpfohbfklghdaaGreatDoorD2
set_option linter.all false
set_option linter.unusedVariables false
set_option maxRecDepth 100000
namespace Go.AI
open Go.Proofs
attribute [local irreducible] callK leave

theorem at_vi {l : List Int} {i : Nat} {x : Int} (h : l[i]? = some x) : (List.drop (Int.toNat (i : Int) * 1) (l.map vi))[0]? = some (vi x) := by
  simp [h]
theorem at_c {α : Type} {f : α → List AV} {z : Nat} (hz : ∀ a, (f a).length = z) {l : List α} {i : Nat} {x : α} (h : l[i]? = some x) (o : Nat) (ho : o < z) : (List.drop o (List.drop (Int.toNat (i : Int) * z) (l.flatMap f)))[0]? = (f x)[o]? := by
  obtain ⟨rest, hr⟩ := getD_cells f z hz l i x h
  have : Int.toNat (i : Int) = i := Int.toNat_natCast i
  rw [this, hr]
  simp only [List.getElem?_drop, Nat.add_zero]
  rw [List.getElem?_append_left (by rw [hz]; exact ho)]

/-- law15.ints -/
theorem ints_ok (a b : List Int) (ha : a.length < 4611686018427387904) : FnOk E0 25 [.ext (a.map vi) a.length, .ext (b.map vi) b.length] [] (vb (decide (a = b))) [] := by
  apply fn_ok
  conv => whnf
  refine br_case (fun h => ?_) (fun h => ?_) <;> rw [h]
  · conv => whnf
    refine bindP_of (leave0 rfl) ?_
    refine ⟨?_, rfl⟩
    have : a ≠ b := by
      rintro rfl
      have h' : ((a.length : Int) != (a.length : Int)) = true := h
      simp at h'
    show vb false = _
    rw [decide_eq_false this]
  · conv => whnf
    have hab : a.length = b.length := by
      have h' : ((a.length : Int) != (b.length : Int)) = false := h
      simp at h'; omega
    refine loop_ind pr0 np0 mo0 (fun i : Nat => ⟨tmps [(0, .ext (a.map vi) a.length), (1, .ext (b.map vi) b.length), (5, vi i)], []⟩) (fun i => a.length - i) (fun i => i ≤ a.length ∧ a.take i = b.take i) ?_ 0 ⟨Nat.zero_le _, rfl⟩ (cln_t ⟨⟨rfl, rfl⟩, ⟨rfl, rfl⟩, ⟨rfl, rfl⟩, trivial⟩ (Nat.le_refl _) rfl)
    intro i hi
    conv => whnf
    refine br_case (fun h1 => ?_) (fun h1 => ?_)
    · have hlt : i < a.length := by
        have h' := of_decide_eq_true h1
        omega
      obtain ⟨x, hx⟩ : ∃ x, a[i]? = some x := ⟨_, List.getElem?_eq_getElem hlt⟩
      obtain ⟨y, hy⟩ : ∃ y, b[i]? = some y := ⟨_, List.getElem?_eq_getElem (by omega)⟩
      conv => whnf
      refine br_case (fun h2 => ?_) (fun h2 => absurd (of_decide_eq_false h2) (by simp; omega))
      conv => whnf
      generalize hq : (List.drop _ _)[0]? = q
      obtain rfl : q = some (vi x) := hq.symm.trans (at_vi hx)
      clear hq
      conv => whnf
      refine br_case (fun h3 => ?_) (fun h3 => absurd (of_decide_eq_false h3) (by simp; omega))
      conv => whnf
      generalize hq : (List.drop _ _)[0]? = q
      obtain rfl : q = some (vi y) := hq.symm.trans (at_vi hy)
      clear hq
      conv => whnf
      refine br_case (fun h5 => ?_) (fun h5 => ?_)
      · conv => whnf
        refine bindP_of (leave0 rfl) ?_
        refine ⟨?_, rfl⟩
        have h' : (x != y) = true := h5
        have : a ≠ b := by
          rintro rfl
          rw [hx] at hy
          cases hy
          simp at h'
        show vb false = _
        rw [decide_eq_false this]
      · conv => whnf
        have h' : (x != y) = false := h5
        have hxy : x = y := by simpa using h'
        refine ⟨i + 1, ⟨⟨hlt, ?_⟩, by omega⟩, cln_t ⟨⟨rfl, rfl⟩, ⟨rfl, rfl⟩, ⟨congrArg vi (w64 (by omega) (by omega)), rfl⟩, trivial⟩ (Nat.le_refl _) rfl⟩
        rw [List.take_add_one, List.take_add_one, hi.2, hx, hy, hxy]
    · conv => whnf
      refine bindP_of (leave0 rfl) ?_
      refine ⟨?_, rfl⟩
      have h' := of_decide_eq_false h1
      have e : i = a.length := by have := hi.1; omega
      have : a = b := by
        have := hi.2
        rw [e, List.take_length, hab, List.take_length] at this
        exact this
      show vb true = _
      rw [decide_eq_true this]
end Go.AI
