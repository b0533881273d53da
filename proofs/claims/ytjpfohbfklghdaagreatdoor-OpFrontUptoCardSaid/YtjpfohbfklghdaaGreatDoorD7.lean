/-
  ref03.Next, walked. Conditions: those that each theorem lists (lengths far below the greatest).
-/
import Derived.Test.YtjpfohbfklghdaaGreatDoorD6
set_option linter.all false
set_option linter.unusedVariables false
set_option maxRecDepth 100000
namespace Go.AI
open Go.Proofs
attribute [local irreducible] callK leave putL moreI

def refC : List UInt8 → Int
  | [] => -1
  | b :: r => if b.toNat < 128 then b.toNat else
    if 192 ≤ b.toNat ∧ b.toNat < 224 then moreI (b.toNat - 192 : Nat) (b :: r) 1 else
    if 224 ≤ b.toNat ∧ b.toNat < 240 then moreI (moreI (b.toNat - 224 : Nat) (b :: r) 1) (b :: r) 2 else
    if 240 ≤ b.toNat ∧ b.toNat < 248 then moreI (moreI (moreI (b.toNat - 240 : Nat) (b :: r) 1) (b :: r) 2) (b :: r) 3 else -1

def refN (l : List UInt8) : Int × Nat :=
  if putL (refC l) = [] ∨ (putL (refC l)).length > l.length ∨ l.take (putL (refC l)).length ≠ putL (refC l) then (-1, 1) else (refC l, (putL (refC l)).length)

theorem putL_neg : putL (-1) = [] := by rw [putL, if_pos (.inl (by decide))]
theorem ext0 (l : List UInt8) (n : Nat) : (ByteArray.extract ⟨⟨l⟩⟩ 0 n).data.toList = l.take n := by
  simp [ByteArray.extract, ByteArray.copySlice]

theorem moreI_lo {c : Int} (l : List UInt8) (i : Nat) (hc : -1 ≤ c) : -1 ≤ moreI c l i := by
  unfold moreI
  split
  · omega
  split
  · split <;> omega
  · omega
theorem moreI_hi {c m : Int} (l : List UInt8) (i : Nat) (hc : c ≤ m) (hm : 0 ≤ m) : moreI c l i ≤ m * 64 + 63 := by
  unfold moreI
  split
  · omega
  split
  · split
    · rename_i b _ hb
      simp only [isC, Bool.and_eq_true, decide_eq_true_eq] at hb
      omega
    · omega
  · omega

set_option maxHeartbeats 4000000 in
theorem rn_lo (b : UInt8) (r : List UInt8) (hs : (b :: r).length < 4611686018427387904) (hn : b.toNat < 128) : FnOk E0 194 [vs ⟨⟨b :: r⟩⟩] [] (.tup [vi (refN (b :: r)).1, vi (refN (b :: r)).2]) [] := by
  have hb := b.toNat_lt
  have hw : IntKind.i64.wrap (b.toNat : Int) = b.toNat := w64 (by omega) (by omega)
  apply fn_ok
  conv => whnf
  refine br_case (fun h => ?_) (fun h => absurd (show (IntKind.i64.wrap (b.toNat : Int)) < 128 by rw [hw]; omega) (of_decide_eq_false h))
  conv => whnf
  have hC : refC (b :: r) = (IntKind.i64.wrap (b.toNat : Int)) := by
    rw [hw, refC, if_pos (by omega)]
  refine callK0 (by kernel_rfl) rfl rfl (by rfl) (put_ok _) rfl ?_
  conv => whnf
  refine br_case (fun t1 => ?_) (fun t1 => ?_) <;> rw [t1]
  · have t1a : (putL (IntKind.i64.wrap (b.toNat : Int)) == []) = true := t1
    conv => whnf
    refine ends (by rfl) ?_
    rw [refN, hC, if_pos (.inl (by simpa using t1a))]; rfl
  have t1a : (putL (IntKind.i64.wrap (b.toNat : Int)) == []) = false := t1
  conv => whnf
  refine br_case (fun t2 => ?_) (fun t2 => ?_) <;> rw [t2]
  · have t2a : ((putL (IntKind.i64.wrap (b.toNat : Int))).length : Int) > ((b :: r).length : Nat) := of_decide_eq_true t2
    conv => whnf
    refine ends (by rfl) ?_
    rw [refN, hC, if_pos (.inr (.inl (by omega)))]; rfl
  have t2a : ¬ ((putL (IntKind.i64.wrap (b.toNat : Int))).length : Int) > ((b :: r).length : Nat) := of_decide_eq_false t2
  conv => whnf
  refine br_case (fun t3 => ?_) (fun t3 => absurd (show (0 : Int) ≤ ((putL (IntKind.i64.wrap (b.toNat : Int))).length : Nat) ∧ (((putL (IntKind.i64.wrap (b.toNat : Int))).length : Nat) : Int) ≤ ((b :: r).length : Nat) from ⟨by omega, by omega⟩) (of_decide_eq_false t3))
  conv => whnf
  refine br_case (fun t4 => ?_) (fun t4 => ?_)
  · have t4a : (!((ByteArray.extract ⟨⟨b :: r⟩⟩ 0 (putL (IntKind.i64.wrap (b.toNat : Int))).length).data.toList == putL (IntKind.i64.wrap (b.toNat : Int)))) = true := t4
    rw [ext0] at t4a
    conv => whnf
    refine ends (by rfl) ?_
    rw [refN, hC, if_pos (.inr (.inr (by simpa using t4a)))]; rfl
  have t4a : (!((ByteArray.extract ⟨⟨b :: r⟩⟩ 0 (putL (IntKind.i64.wrap (b.toNat : Int))).length).data.toList == putL (IntKind.i64.wrap (b.toNat : Int)))) = false := t4
  rw [ext0] at t4a
  conv => whnf
  refine ends (by rfl) ?_
  rw [refN, hC, if_neg]; rfl
  rintro (h | h | h)
  · rw [h] at t1a; simp at t1a
  · omega
  · exact h (by simpa using t4a)
set_option maxHeartbeats 4000000 in
theorem rn_mid (b : UInt8) (r : List UInt8) (hs : (b :: r).length < 4611686018427387904) (hn : 128 ≤ b.toNat ∧ b.toNat < 192) : FnOk E0 194 [vs ⟨⟨b :: r⟩⟩] [] (.tup [vi (refN (b :: r)).1, vi (refN (b :: r)).2]) [] := by
  have hb := b.toNat_lt
  have hw : IntKind.i64.wrap (b.toNat : Int) = b.toNat := w64 (by omega) (by omega)
  apply fn_ok
  conv => whnf
  refine br_case (fun h => absurd (show (IntKind.i64.wrap (b.toNat : Int)) < 128 from of_decide_eq_true h) (by rw [hw]; omega)) (fun h => ?_)
  conv => whnf
  refine br_case (fun a1 => absurd (show (IntKind.i64.wrap (b.toNat : Int)) ≥ 192 from of_decide_eq_true a1) (by rw [hw]; omega)) (fun a1 => ?_)
  rw [a1]
  conv => whnf
  refine br_case (fun a2 => absurd (show (IntKind.i64.wrap (b.toNat : Int)) ≥ 224 from of_decide_eq_true a2) (by rw [hw]; omega)) (fun a2 => ?_)
  rw [a2]
  conv => whnf
  refine br_case (fun a3 => absurd (show (IntKind.i64.wrap (b.toNat : Int)) ≥ 240 from of_decide_eq_true a3) (by rw [hw]; omega)) (fun a3 => ?_)
  rw [a3]
  conv => whnf
  have hC : refC (b :: r) = -1 := by
    rw [refC, if_neg (by omega), if_neg (by omega), if_neg (by omega), if_neg (by omega)]
  have hp : FnOk E0 240 [vi (-1)] [] (vs ⟨⟨[]⟩⟩) [] := by
    have := put_ok (-1)
    rwa [putL_neg] at this
  refine callK0 (by kernel_rfl) rfl rfl (by rfl) hp rfl ?_
  conv => whnf
  refine ends (by rfl) ?_
  rw [refN, hC, if_pos (.inl putL_neg)]; rfl
set_option maxHeartbeats 4000000 in
theorem rn_2 (b : UInt8) (r : List UInt8) (hs : (b :: r).length < 4611686018427387904) (hn : 192 ≤ b.toNat ∧ b.toNat < 224) : FnOk E0 194 [vs ⟨⟨b :: r⟩⟩] [] (.tup [vi (refN (b :: r)).1, vi (refN (b :: r)).2]) [] := by
  have hb := b.toNat_lt
  have hw : IntKind.i64.wrap (b.toNat : Int) = b.toNat := w64 (by omega) (by omega)
  apply fn_ok
  conv => whnf
  refine br_case (fun h => absurd (show (IntKind.i64.wrap (b.toNat : Int)) < 128 from of_decide_eq_true h) (by rw [hw]; omega)) (fun h => ?_)
  conv => whnf
  refine br_case (fun a4 => ?_) (fun a4 => absurd (show (IntKind.i64.wrap (b.toNat : Int)) ≥ 192 by rw [hw]; omega) (of_decide_eq_false a4))
  rw [a4]
  conv => whnf
  refine br_case (fun a4d => ?_) (fun a4d => absurd (show (IntKind.i64.wrap (b.toNat : Int)) < 224 by rw [hw]; omega) (of_decide_eq_false a4d))
  conv => whnf
  have hx : (IntKind.i64.wrap ((IntKind.i64.wrap (b.toNat : Int)) - 192)) = ((b.toNat - 192 : Nat) : Int) := by rw [hw, w64 (by omega) (by omega)]; omega
  refine callK0 (by kernel_rfl) rfl rfl (by rfl) (more_ok (IntKind.i64.wrap ((IntKind.i64.wrap (b.toNat : Int)) - 192)) (b :: r) 1 (by rw [hx]; omega) (by rw [hx]; omega)) rfl ?_
  conv => whnf
  have v1 : -1 ≤ (moreI (IntKind.i64.wrap ((IntKind.i64.wrap (b.toNat : Int)) - 192)) (b :: r) 1) := moreI_lo _ _ (by rw [hx]; omega)
  have u1 : (moreI (IntKind.i64.wrap ((IntKind.i64.wrap (b.toNat : Int)) - 192)) (b :: r) 1) ≤ 2111 := moreI_hi (m := 32) _ _ (by rw [hx]; omega) (by decide)
  have hC : refC (b :: r) = (moreI (IntKind.i64.wrap ((IntKind.i64.wrap (b.toNat : Int)) - 192)) (b :: r) 1) := by
    rw [hx, refC, if_neg (by omega), if_pos (by omega)]
  refine callK0 (by kernel_rfl) rfl rfl (by rfl) (put_ok _) rfl ?_
  conv => whnf
  refine br_case (fun t1 => ?_) (fun t1 => ?_) <;> rw [t1]
  · have t1a : (putL (moreI (IntKind.i64.wrap ((IntKind.i64.wrap (b.toNat : Int)) - 192)) (b :: r) 1) == []) = true := t1
    conv => whnf
    refine ends (by rfl) ?_
    rw [refN, hC, if_pos (.inl (by simpa using t1a))]; rfl
  have t1a : (putL (moreI (IntKind.i64.wrap ((IntKind.i64.wrap (b.toNat : Int)) - 192)) (b :: r) 1) == []) = false := t1
  conv => whnf
  refine br_case (fun t2 => ?_) (fun t2 => ?_) <;> rw [t2]
  · have t2a : ((putL (moreI (IntKind.i64.wrap ((IntKind.i64.wrap (b.toNat : Int)) - 192)) (b :: r) 1)).length : Int) > ((b :: r).length : Nat) := of_decide_eq_true t2
    conv => whnf
    refine ends (by rfl) ?_
    rw [refN, hC, if_pos (.inr (.inl (by omega)))]; rfl
  have t2a : ¬ ((putL (moreI (IntKind.i64.wrap ((IntKind.i64.wrap (b.toNat : Int)) - 192)) (b :: r) 1)).length : Int) > ((b :: r).length : Nat) := of_decide_eq_false t2
  conv => whnf
  refine br_case (fun t3 => ?_) (fun t3 => absurd (show (0 : Int) ≤ ((putL (moreI (IntKind.i64.wrap ((IntKind.i64.wrap (b.toNat : Int)) - 192)) (b :: r) 1)).length : Nat) ∧ (((putL (moreI (IntKind.i64.wrap ((IntKind.i64.wrap (b.toNat : Int)) - 192)) (b :: r) 1)).length : Nat) : Int) ≤ ((b :: r).length : Nat) from ⟨by omega, by omega⟩) (of_decide_eq_false t3))
  conv => whnf
  refine br_case (fun t4 => ?_) (fun t4 => ?_)
  · have t4a : (!((ByteArray.extract ⟨⟨b :: r⟩⟩ 0 (putL (moreI (IntKind.i64.wrap ((IntKind.i64.wrap (b.toNat : Int)) - 192)) (b :: r) 1)).length).data.toList == putL (moreI (IntKind.i64.wrap ((IntKind.i64.wrap (b.toNat : Int)) - 192)) (b :: r) 1))) = true := t4
    rw [ext0] at t4a
    conv => whnf
    refine ends (by rfl) ?_
    rw [refN, hC, if_pos (.inr (.inr (by simpa using t4a)))]; rfl
  have t4a : (!((ByteArray.extract ⟨⟨b :: r⟩⟩ 0 (putL (moreI (IntKind.i64.wrap ((IntKind.i64.wrap (b.toNat : Int)) - 192)) (b :: r) 1)).length).data.toList == putL (moreI (IntKind.i64.wrap ((IntKind.i64.wrap (b.toNat : Int)) - 192)) (b :: r) 1))) = false := t4
  rw [ext0] at t4a
  conv => whnf
  refine ends (by rfl) ?_
  rw [refN, hC, if_neg]; rfl
  rintro (h | h | h)
  · rw [h] at t1a; simp at t1a
  · omega
  · exact h (by simpa using t4a)
set_option maxHeartbeats 4000000 in
theorem rn_3 (b : UInt8) (r : List UInt8) (hs : (b :: r).length < 4611686018427387904) (hn : 224 ≤ b.toNat ∧ b.toNat < 240) : FnOk E0 194 [vs ⟨⟨b :: r⟩⟩] [] (.tup [vi (refN (b :: r)).1, vi (refN (b :: r)).2]) [] := by
  have hb := b.toNat_lt
  have hw : IntKind.i64.wrap (b.toNat : Int) = b.toNat := w64 (by omega) (by omega)
  apply fn_ok
  conv => whnf
  refine br_case (fun h => absurd (show (IntKind.i64.wrap (b.toNat : Int)) < 128 from of_decide_eq_true h) (by rw [hw]; omega)) (fun h => ?_)
  conv => whnf
  refine br_case (fun a5 => ?_) (fun a5 => absurd (show (IntKind.i64.wrap (b.toNat : Int)) ≥ 192 by rw [hw]; omega) (of_decide_eq_false a5))
  rw [a5]
  conv => whnf
  refine br_case (fun a5d => absurd (show (IntKind.i64.wrap (b.toNat : Int)) < 224 from of_decide_eq_true a5d) (by rw [hw]; omega)) (fun a5d => ?_)
  conv => whnf
  refine br_case (fun a6 => ?_) (fun a6 => absurd (show (IntKind.i64.wrap (b.toNat : Int)) ≥ 224 by rw [hw]; omega) (of_decide_eq_false a6))
  rw [a6]
  conv => whnf
  refine br_case (fun a6d => ?_) (fun a6d => absurd (show (IntKind.i64.wrap (b.toNat : Int)) < 240 by rw [hw]; omega) (of_decide_eq_false a6d))
  conv => whnf
  have hx : (IntKind.i64.wrap ((IntKind.i64.wrap (b.toNat : Int)) - 224)) = ((b.toNat - 224 : Nat) : Int) := by rw [hw, w64 (by omega) (by omega)]; omega
  refine callK0 (by kernel_rfl) rfl rfl (by rfl) (more_ok (IntKind.i64.wrap ((IntKind.i64.wrap (b.toNat : Int)) - 224)) (b :: r) 1 (by rw [hx]; omega) (by rw [hx]; omega)) rfl ?_
  conv => whnf
  have v1 : -1 ≤ (moreI (IntKind.i64.wrap ((IntKind.i64.wrap (b.toNat : Int)) - 224)) (b :: r) 1) := moreI_lo _ _ (by rw [hx]; omega)
  have u1 : (moreI (IntKind.i64.wrap ((IntKind.i64.wrap (b.toNat : Int)) - 224)) (b :: r) 1) ≤ 2111 := moreI_hi (m := 32) _ _ (by rw [hx]; omega) (by decide)
  refine callK0 (by kernel_rfl) rfl rfl (by rfl) (more_ok (moreI (IntKind.i64.wrap ((IntKind.i64.wrap (b.toNat : Int)) - 224)) (b :: r) 1) (b :: r) 2 (by omega) (by omega)) rfl ?_
  conv => whnf
  have v2 : -1 ≤ (moreI (moreI (IntKind.i64.wrap ((IntKind.i64.wrap (b.toNat : Int)) - 224)) (b :: r) 1) (b :: r) 2) := moreI_lo _ _ (by exact v1)
  have u2 : (moreI (moreI (IntKind.i64.wrap ((IntKind.i64.wrap (b.toNat : Int)) - 224)) (b :: r) 1) (b :: r) 2) ≤ 135167 := moreI_hi (m := 2111) _ _ (by exact u1) (by decide)
  have hC : refC (b :: r) = (moreI (moreI (IntKind.i64.wrap ((IntKind.i64.wrap (b.toNat : Int)) - 224)) (b :: r) 1) (b :: r) 2) := by
    rw [hx, refC, if_neg (by omega), if_neg (by omega), if_pos (by omega)]
  refine callK0 (by kernel_rfl) rfl rfl (by rfl) (put_ok _) rfl ?_
  conv => whnf
  refine br_case (fun t1 => ?_) (fun t1 => ?_) <;> rw [t1]
  · have t1a : (putL (moreI (moreI (IntKind.i64.wrap ((IntKind.i64.wrap (b.toNat : Int)) - 224)) (b :: r) 1) (b :: r) 2) == []) = true := t1
    conv => whnf
    refine ends (by rfl) ?_
    rw [refN, hC, if_pos (.inl (by simpa using t1a))]; rfl
  have t1a : (putL (moreI (moreI (IntKind.i64.wrap ((IntKind.i64.wrap (b.toNat : Int)) - 224)) (b :: r) 1) (b :: r) 2) == []) = false := t1
  conv => whnf
  refine br_case (fun t2 => ?_) (fun t2 => ?_) <;> rw [t2]
  · have t2a : ((putL (moreI (moreI (IntKind.i64.wrap ((IntKind.i64.wrap (b.toNat : Int)) - 224)) (b :: r) 1) (b :: r) 2)).length : Int) > ((b :: r).length : Nat) := of_decide_eq_true t2
    conv => whnf
    refine ends (by rfl) ?_
    rw [refN, hC, if_pos (.inr (.inl (by omega)))]; rfl
  have t2a : ¬ ((putL (moreI (moreI (IntKind.i64.wrap ((IntKind.i64.wrap (b.toNat : Int)) - 224)) (b :: r) 1) (b :: r) 2)).length : Int) > ((b :: r).length : Nat) := of_decide_eq_false t2
  conv => whnf
  refine br_case (fun t3 => ?_) (fun t3 => absurd (show (0 : Int) ≤ ((putL (moreI (moreI (IntKind.i64.wrap ((IntKind.i64.wrap (b.toNat : Int)) - 224)) (b :: r) 1) (b :: r) 2)).length : Nat) ∧ (((putL (moreI (moreI (IntKind.i64.wrap ((IntKind.i64.wrap (b.toNat : Int)) - 224)) (b :: r) 1) (b :: r) 2)).length : Nat) : Int) ≤ ((b :: r).length : Nat) from ⟨by omega, by omega⟩) (of_decide_eq_false t3))
  conv => whnf
  refine br_case (fun t4 => ?_) (fun t4 => ?_)
  · have t4a : (!((ByteArray.extract ⟨⟨b :: r⟩⟩ 0 (putL (moreI (moreI (IntKind.i64.wrap ((IntKind.i64.wrap (b.toNat : Int)) - 224)) (b :: r) 1) (b :: r) 2)).length).data.toList == putL (moreI (moreI (IntKind.i64.wrap ((IntKind.i64.wrap (b.toNat : Int)) - 224)) (b :: r) 1) (b :: r) 2))) = true := t4
    rw [ext0] at t4a
    conv => whnf
    refine ends (by rfl) ?_
    rw [refN, hC, if_pos (.inr (.inr (by simpa using t4a)))]; rfl
  have t4a : (!((ByteArray.extract ⟨⟨b :: r⟩⟩ 0 (putL (moreI (moreI (IntKind.i64.wrap ((IntKind.i64.wrap (b.toNat : Int)) - 224)) (b :: r) 1) (b :: r) 2)).length).data.toList == putL (moreI (moreI (IntKind.i64.wrap ((IntKind.i64.wrap (b.toNat : Int)) - 224)) (b :: r) 1) (b :: r) 2))) = false := t4
  rw [ext0] at t4a
  conv => whnf
  refine ends (by rfl) ?_
  rw [refN, hC, if_neg]; rfl
  rintro (h | h | h)
  · rw [h] at t1a; simp at t1a
  · omega
  · exact h (by simpa using t4a)
set_option maxHeartbeats 4000000 in
theorem rn_4 (b : UInt8) (r : List UInt8) (hs : (b :: r).length < 4611686018427387904) (hn : 240 ≤ b.toNat ∧ b.toNat < 248) : FnOk E0 194 [vs ⟨⟨b :: r⟩⟩] [] (.tup [vi (refN (b :: r)).1, vi (refN (b :: r)).2]) [] := by
  have hb := b.toNat_lt
  have hw : IntKind.i64.wrap (b.toNat : Int) = b.toNat := w64 (by omega) (by omega)
  apply fn_ok
  conv => whnf
  refine br_case (fun h => absurd (show (IntKind.i64.wrap (b.toNat : Int)) < 128 from of_decide_eq_true h) (by rw [hw]; omega)) (fun h => ?_)
  conv => whnf
  refine br_case (fun a7 => ?_) (fun a7 => absurd (show (IntKind.i64.wrap (b.toNat : Int)) ≥ 192 by rw [hw]; omega) (of_decide_eq_false a7))
  rw [a7]
  conv => whnf
  refine br_case (fun a7d => absurd (show (IntKind.i64.wrap (b.toNat : Int)) < 224 from of_decide_eq_true a7d) (by rw [hw]; omega)) (fun a7d => ?_)
  conv => whnf
  refine br_case (fun a8 => ?_) (fun a8 => absurd (show (IntKind.i64.wrap (b.toNat : Int)) ≥ 224 by rw [hw]; omega) (of_decide_eq_false a8))
  rw [a8]
  conv => whnf
  refine br_case (fun a8d => absurd (show (IntKind.i64.wrap (b.toNat : Int)) < 240 from of_decide_eq_true a8d) (by rw [hw]; omega)) (fun a8d => ?_)
  conv => whnf
  refine br_case (fun a9 => ?_) (fun a9 => absurd (show (IntKind.i64.wrap (b.toNat : Int)) ≥ 240 by rw [hw]; omega) (of_decide_eq_false a9))
  rw [a9]
  conv => whnf
  refine br_case (fun a9d => ?_) (fun a9d => absurd (show (IntKind.i64.wrap (b.toNat : Int)) < 248 by rw [hw]; omega) (of_decide_eq_false a9d))
  conv => whnf
  have hx : (IntKind.i64.wrap ((IntKind.i64.wrap (b.toNat : Int)) - 240)) = ((b.toNat - 240 : Nat) : Int) := by rw [hw, w64 (by omega) (by omega)]; omega
  refine callK0 (by kernel_rfl) rfl rfl (by rfl) (more_ok (IntKind.i64.wrap ((IntKind.i64.wrap (b.toNat : Int)) - 240)) (b :: r) 1 (by rw [hx]; omega) (by rw [hx]; omega)) rfl ?_
  conv => whnf
  have v1 : -1 ≤ (moreI (IntKind.i64.wrap ((IntKind.i64.wrap (b.toNat : Int)) - 240)) (b :: r) 1) := moreI_lo _ _ (by rw [hx]; omega)
  have u1 : (moreI (IntKind.i64.wrap ((IntKind.i64.wrap (b.toNat : Int)) - 240)) (b :: r) 1) ≤ 2111 := moreI_hi (m := 32) _ _ (by rw [hx]; omega) (by decide)
  refine callK0 (by kernel_rfl) rfl rfl (by rfl) (more_ok (moreI (IntKind.i64.wrap ((IntKind.i64.wrap (b.toNat : Int)) - 240)) (b :: r) 1) (b :: r) 2 (by omega) (by omega)) rfl ?_
  conv => whnf
  have v2 : -1 ≤ (moreI (moreI (IntKind.i64.wrap ((IntKind.i64.wrap (b.toNat : Int)) - 240)) (b :: r) 1) (b :: r) 2) := moreI_lo _ _ (by exact v1)
  have u2 : (moreI (moreI (IntKind.i64.wrap ((IntKind.i64.wrap (b.toNat : Int)) - 240)) (b :: r) 1) (b :: r) 2) ≤ 135167 := moreI_hi (m := 2111) _ _ (by exact u1) (by decide)
  refine callK0 (by kernel_rfl) rfl rfl (by rfl) (more_ok (moreI (moreI (IntKind.i64.wrap ((IntKind.i64.wrap (b.toNat : Int)) - 240)) (b :: r) 1) (b :: r) 2) (b :: r) 3 (by omega) (by omega)) rfl ?_
  conv => whnf
  have v3 : -1 ≤ (moreI (moreI (moreI (IntKind.i64.wrap ((IntKind.i64.wrap (b.toNat : Int)) - 240)) (b :: r) 1) (b :: r) 2) (b :: r) 3) := moreI_lo _ _ (by exact v2)
  have u3 : (moreI (moreI (moreI (IntKind.i64.wrap ((IntKind.i64.wrap (b.toNat : Int)) - 240)) (b :: r) 1) (b :: r) 2) (b :: r) 3) ≤ 8650751 := moreI_hi (m := 135167) _ _ (by exact u2) (by decide)
  have hC : refC (b :: r) = (moreI (moreI (moreI (IntKind.i64.wrap ((IntKind.i64.wrap (b.toNat : Int)) - 240)) (b :: r) 1) (b :: r) 2) (b :: r) 3) := by
    rw [hx, refC, if_neg (by omega), if_neg (by omega), if_neg (by omega), if_pos (by omega)]
  refine callK0 (by kernel_rfl) rfl rfl (by rfl) (put_ok _) rfl ?_
  conv => whnf
  refine br_case (fun t1 => ?_) (fun t1 => ?_) <;> rw [t1]
  · have t1a : (putL (moreI (moreI (moreI (IntKind.i64.wrap ((IntKind.i64.wrap (b.toNat : Int)) - 240)) (b :: r) 1) (b :: r) 2) (b :: r) 3) == []) = true := t1
    conv => whnf
    refine ends (by rfl) ?_
    rw [refN, hC, if_pos (.inl (by simpa using t1a))]; rfl
  have t1a : (putL (moreI (moreI (moreI (IntKind.i64.wrap ((IntKind.i64.wrap (b.toNat : Int)) - 240)) (b :: r) 1) (b :: r) 2) (b :: r) 3) == []) = false := t1
  conv => whnf
  refine br_case (fun t2 => ?_) (fun t2 => ?_) <;> rw [t2]
  · have t2a : ((putL (moreI (moreI (moreI (IntKind.i64.wrap ((IntKind.i64.wrap (b.toNat : Int)) - 240)) (b :: r) 1) (b :: r) 2) (b :: r) 3)).length : Int) > ((b :: r).length : Nat) := of_decide_eq_true t2
    conv => whnf
    refine ends (by rfl) ?_
    rw [refN, hC, if_pos (.inr (.inl (by omega)))]; rfl
  have t2a : ¬ ((putL (moreI (moreI (moreI (IntKind.i64.wrap ((IntKind.i64.wrap (b.toNat : Int)) - 240)) (b :: r) 1) (b :: r) 2) (b :: r) 3)).length : Int) > ((b :: r).length : Nat) := of_decide_eq_false t2
  conv => whnf
  refine br_case (fun t3 => ?_) (fun t3 => absurd (show (0 : Int) ≤ ((putL (moreI (moreI (moreI (IntKind.i64.wrap ((IntKind.i64.wrap (b.toNat : Int)) - 240)) (b :: r) 1) (b :: r) 2) (b :: r) 3)).length : Nat) ∧ (((putL (moreI (moreI (moreI (IntKind.i64.wrap ((IntKind.i64.wrap (b.toNat : Int)) - 240)) (b :: r) 1) (b :: r) 2) (b :: r) 3)).length : Nat) : Int) ≤ ((b :: r).length : Nat) from ⟨by omega, by omega⟩) (of_decide_eq_false t3))
  conv => whnf
  refine br_case (fun t4 => ?_) (fun t4 => ?_)
  · have t4a : (!((ByteArray.extract ⟨⟨b :: r⟩⟩ 0 (putL (moreI (moreI (moreI (IntKind.i64.wrap ((IntKind.i64.wrap (b.toNat : Int)) - 240)) (b :: r) 1) (b :: r) 2) (b :: r) 3)).length).data.toList == putL (moreI (moreI (moreI (IntKind.i64.wrap ((IntKind.i64.wrap (b.toNat : Int)) - 240)) (b :: r) 1) (b :: r) 2) (b :: r) 3))) = true := t4
    rw [ext0] at t4a
    conv => whnf
    refine ends (by rfl) ?_
    rw [refN, hC, if_pos (.inr (.inr (by simpa using t4a)))]; rfl
  have t4a : (!((ByteArray.extract ⟨⟨b :: r⟩⟩ 0 (putL (moreI (moreI (moreI (IntKind.i64.wrap ((IntKind.i64.wrap (b.toNat : Int)) - 240)) (b :: r) 1) (b :: r) 2) (b :: r) 3)).length).data.toList == putL (moreI (moreI (moreI (IntKind.i64.wrap ((IntKind.i64.wrap (b.toNat : Int)) - 240)) (b :: r) 1) (b :: r) 2) (b :: r) 3))) = false := t4
  rw [ext0] at t4a
  conv => whnf
  refine ends (by rfl) ?_
  rw [refN, hC, if_neg]; rfl
  rintro (h | h | h)
  · rw [h] at t1a; simp at t1a
  · omega
  · exact h (by simpa using t4a)
set_option maxHeartbeats 4000000 in
theorem rn_hi (b : UInt8) (r : List UInt8) (hs : (b :: r).length < 4611686018427387904) (hn : 248 ≤ b.toNat) : FnOk E0 194 [vs ⟨⟨b :: r⟩⟩] [] (.tup [vi (refN (b :: r)).1, vi (refN (b :: r)).2]) [] := by
  have hb := b.toNat_lt
  have hw : IntKind.i64.wrap (b.toNat : Int) = b.toNat := w64 (by omega) (by omega)
  apply fn_ok
  conv => whnf
  refine br_case (fun h => absurd (show (IntKind.i64.wrap (b.toNat : Int)) < 128 from of_decide_eq_true h) (by rw [hw]; omega)) (fun h => ?_)
  conv => whnf
  refine br_case (fun a10 => ?_) (fun a10 => absurd (show (IntKind.i64.wrap (b.toNat : Int)) ≥ 192 by rw [hw]; omega) (of_decide_eq_false a10))
  rw [a10]
  conv => whnf
  refine br_case (fun a10d => absurd (show (IntKind.i64.wrap (b.toNat : Int)) < 224 from of_decide_eq_true a10d) (by rw [hw]; omega)) (fun a10d => ?_)
  conv => whnf
  refine br_case (fun a11 => ?_) (fun a11 => absurd (show (IntKind.i64.wrap (b.toNat : Int)) ≥ 224 by rw [hw]; omega) (of_decide_eq_false a11))
  rw [a11]
  conv => whnf
  refine br_case (fun a11d => absurd (show (IntKind.i64.wrap (b.toNat : Int)) < 240 from of_decide_eq_true a11d) (by rw [hw]; omega)) (fun a11d => ?_)
  conv => whnf
  refine br_case (fun a12 => ?_) (fun a12 => absurd (show (IntKind.i64.wrap (b.toNat : Int)) ≥ 240 by rw [hw]; omega) (of_decide_eq_false a12))
  rw [a12]
  conv => whnf
  refine br_case (fun a12d => absurd (show (IntKind.i64.wrap (b.toNat : Int)) < 248 from of_decide_eq_true a12d) (by rw [hw]; omega)) (fun a12d => ?_)
  conv => whnf
  have hC : refC (b :: r) = -1 := by
    rw [refC, if_neg (by omega), if_neg (by omega), if_neg (by omega), if_neg (by omega)]
  have hp : FnOk E0 240 [vi (-1)] [] (vs ⟨⟨[]⟩⟩) [] := by
    have := put_ok (-1)
    rwa [putL_neg] at this
  refine callK0 (by kernel_rfl) rfl rfl (by rfl) hp rfl ?_
  conv => whnf
  refine ends (by rfl) ?_
  rw [refN, hC, if_pos (.inl putL_neg)]; rfl
end Go.AI
