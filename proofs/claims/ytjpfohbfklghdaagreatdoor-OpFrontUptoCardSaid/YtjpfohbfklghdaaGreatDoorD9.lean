/-
  utf.Fault, utf.Valid, ref03.Fault, ref03.Valid: the first byte at which no character stands. Conditions: those that each theorem lists (lengths far below the greatest).
-/
import Derived.Test.YtjpfohbfklghdaaGreatDoorD8
set_option linter.all false
set_option linter.unusedVariables false
set_option maxRecDepth 100000
namespace Go.AI
open Go.Proofs
attribute [local irreducible] callK leave nextU

theorem ext_drop (s : ByteArray) (i : Nat) : (ByteArray.extract s i s.size).data.toList = s.data.toList.drop i := by
  obtain ⟨⟨l⟩⟩ := s
  simp [ByteArray.extract, ByteArray.copySlice, ByteArray.size]
  exact List.take_of_length_le (by simp)
theorem ext_size (s : ByteArray) (i j : Nat) : (ByteArray.extract s i j).size ≤ s.size := by
  simp [ByteArray.size_extract]; omega
theorem size_len (s : ByteArray) : s.size = s.data.toList.length := by
  obtain ⟨⟨l⟩⟩ := s; rfl

/-- One round of fault's loop. -/
theorem faultU_stop {l : List UInt8} {a : Nat} (h : a < l.length) (hn : (nextU (l.drop a)).1 < 0) : faultU (l.length - a) l a = a := by
  obtain ⟨m, hm⟩ : ∃ m, l.length - a = m + 1 := ⟨l.length - a - 1, by omega⟩
  rw [hm, faultU, if_pos h, if_pos hn]
theorem faultU_go {l : List UInt8} {a : Nat} (h : a < l.length) (hn : ¬ (nextU (l.drop a)).1 < 0) : faultU (l.length - a) l a = faultU (l.length - (a + (nextU (l.drop a)).2)) l (a + (nextU (l.drop a)).2) ∧ a + (nextU (l.drop a)).2 ≤ l.length ∧ 1 ≤ (nextU (l.drop a)).2 := by
  have hne : l.drop a ≠ [] := by simp; omega
  have hst := nextU_step _ hne
  simp only [List.length_drop] at hst
  obtain ⟨m, hm⟩ : ∃ m, l.length - a = m + 1 := ⟨l.length - a - 1, by omega⟩
  refine ⟨?_, by omega, by omega⟩
  rw [hm, faultU, if_pos h, if_neg hn]
  exact faultU_more _ _ _ _ (by omega) (by omega) (by omega)

theorem fault_ok (s : ByteArray) (hs : s.size < 4611686018427387904) : FnOk E0 160 [vs s] [] (vi (fU s)) [] := by
  have hsl := size_len s
  apply fn_ok
  conv => whnf
  refine loop_ind pr0 np0 mo0 (fun i : Nat => ⟨tmps [(0, vs s), (3, vi i)], []⟩) (fun i => s.size - i) (fun i => i ≤ s.data.toList.length ∧ fU s = faultU (s.data.toList.length - i) s.data.toList i) ?_ 0 ⟨Nat.zero_le _, rfl⟩ (cln_t ⟨⟨rfl, rfl⟩, ⟨rfl, rfl⟩, trivial⟩ (Nat.le_refl _) rfl)
  intro i hi
  conv => whnf
  refine br_case (fun h => ?_) (fun h => ?_)
  · have h' : (i : Int) < (s.size : Nat) := of_decide_eq_true h
    have hlt : i < s.data.toList.length := by omega
    conv => whnf
    refine br_case (fun h1 => ?_) (fun h1 => absurd (show (0 : Int) ≤ i ∧ (i : Int) ≤ (s.size : Nat) from ⟨by omega, by omega⟩) (of_decide_eq_false h1))
    conv => whnf
    refine callK0 (by kernel_rfl) rfl rfl (by rfl) (next_ok (ByteArray.extract s i s.size) (Nat.lt_of_le_of_lt (ext_size s _ _) hs)) rfl ?_
    rw [ext_drop]
    conv => whnf
    refine br_case (fun h2 => ?_) (fun h2 => ?_)
    · have h2' : (nextU (s.data.toList.drop i)).1 < 0 := of_decide_eq_true h2
      conv => whnf
      refine ends (by rfl) ?_
      show vi (i : Int) = vi (fU s)
      rw [hi.2, faultU_stop hlt h2']
    · have h2' : ¬ (nextU (s.data.toList.drop i)).1 < 0 := of_decide_eq_false h2
      obtain ⟨k1, k2, k3⟩ := faultU_go hlt h2'
      conv => whnf
      refine ⟨i + (nextU (s.data.toList.drop i)).2, ⟨⟨k2, hi.2.trans k1⟩, by omega⟩, cln_t ⟨⟨rfl, rfl⟩, ⟨?_, rfl⟩, trivial⟩ (Nat.le_refl _) rfl⟩
      exact congrArg vi (w64 (n := (i : Int) + ((nextU (s.data.toList.drop i)).2 : Int)) (by omega) (by omega))
  · have h' : ¬ (i : Int) < (s.size : Nat) := of_decide_eq_false h
    conv => whnf
    refine ends (by rfl) ?_
    show vi (i : Int) = vi (fU s)
    have e : s.data.toList.length - i = 0 := by omega
    rw [hi.2, e, faultU]

theorem rfault_ok (s : ByteArray) (hs : s.size < 4611686018427387904) : FnOk E0 161 [vs s] [] (vi (fU s)) [] := by
  have hsl := size_len s
  apply fn_ok
  conv => whnf
  refine loop_ind pr0 np0 mo0 (fun i : Nat => ⟨tmps [(0, vs s), (3, vi i)], []⟩) (fun i => s.size - i) (fun i => i ≤ s.data.toList.length ∧ fU s = faultU (s.data.toList.length - i) s.data.toList i) ?_ 0 ⟨Nat.zero_le _, rfl⟩ (cln_t ⟨⟨rfl, rfl⟩, ⟨rfl, rfl⟩, trivial⟩ (Nat.le_refl _) rfl)
  intro i hi
  conv => whnf
  refine br_case (fun h => ?_) (fun h => ?_)
  · have h' : (i : Int) < (s.size : Nat) := of_decide_eq_true h
    have hlt : i < s.data.toList.length := by omega
    conv => whnf
    refine br_case (fun h1 => ?_) (fun h1 => absurd (show (0 : Int) ≤ i ∧ (i : Int) ≤ (s.size : Nat) from ⟨by omega, by omega⟩) (of_decide_eq_false h1))
    conv => whnf
    refine callK0 (by kernel_rfl) rfl rfl (by rfl) (rnext_ok (ByteArray.extract s i s.size) (Nat.lt_of_le_of_lt (ext_size s _ _) hs)) rfl ?_
    rw [ext_drop]
    conv => whnf
    refine br_case (fun h2 => ?_) (fun h2 => ?_)
    · have h2' : (nextU (s.data.toList.drop i)).1 < 0 := of_decide_eq_true h2
      conv => whnf
      refine ends (by rfl) ?_
      show vi (i : Int) = vi (fU s)
      rw [hi.2, faultU_stop hlt h2']
    · have h2' : ¬ (nextU (s.data.toList.drop i)).1 < 0 := of_decide_eq_false h2
      obtain ⟨k1, k2, k3⟩ := faultU_go hlt h2'
      conv => whnf
      refine ⟨i + (nextU (s.data.toList.drop i)).2, ⟨⟨k2, hi.2.trans k1⟩, by omega⟩, cln_t ⟨⟨rfl, rfl⟩, ⟨?_, rfl⟩, trivial⟩ (Nat.le_refl _) rfl⟩
      exact congrArg vi (w64 (n := (i : Int) + ((nextU (s.data.toList.drop i)).2 : Int)) (by omega) (by omega))
  · have h' : ¬ (i : Int) < (s.size : Nat) := of_decide_eq_false h
    conv => whnf
    refine ends (by rfl) ?_
    show vi (i : Int) = vi (fU s)
    have e : s.data.toList.length - i = 0 := by omega
    rw [hi.2, e, faultU]

theorem valid_ok (s : ByteArray) (hs : s.size < 4611686018427387904) : FnOk E0 108 [vs s] [] (vb (validU s)) [] := by
  apply fn_ok
  conv => whnf
  refine callK0 (by kernel_rfl) rfl rfl (by rfl) (fault_ok s hs) rfl ?_
  conv => whnf
  refine ends (by rfl) ?_
  rfl

theorem rvalid_ok (s : ByteArray) (hs : s.size < 4611686018427387904) : FnOk E0 110 [vs s] [] (vb (validU s)) [] := by
  apply fn_ok
  conv => whnf
  refine callK0 (by kernel_rfl) rfl rfl (by rfl) (rfault_ok s hs) rfl ?_
  conv => whnf
  refine ends (by rfl) ?_
  rfl

end Go.AI
