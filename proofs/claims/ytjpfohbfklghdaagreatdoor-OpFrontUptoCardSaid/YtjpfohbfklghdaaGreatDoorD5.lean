/-
  ref03.more: six bits more. Conditions: those that each theorem lists (lengths far below the greatest).
-/
import Derived.Test.YtjpfohbfklghdaaGreatDoorD4
set_option linter.all false
set_option linter.unusedVariables false
set_option maxRecDepth 100000
namespace Go.AI
open Go.Proofs
attribute [local irreducible] callK leave

def ub (x : Int) : UInt8 := UInt8.ofNat (IntKind.u8.wrap x).toNat
theorem ub_nat (n : Nat) (h : n < 256) : (ub (n : Int)).toNat = n := by
  have : IntKind.u8.wrap (n : Int) = n := by simp [IntKind.wrap, IntKind.bits, IntKind.signed]; omega
  unfold ub
  rw [this]
  simp; omega
theorem ub_eq {n : Nat} {b : UInt8} (h : n = b.toNat) : ub (n : Int) = b := by
  apply UInt8.toNat_inj.1
  rw [ub_nat n (by have := b.toNat_lt; omega), h]

def moreI (c : Int) (l : List UInt8) (i : Nat) : Int := if c < 0 then -1 else match l[i]? with
  | some b => if isC b = true then c * 64 + ((b.toNat - 128 : Nat) : Int) else -1
  | none => -1

/-- ref03.more -/
theorem more_ok (c : Int) (l : List UInt8) (i : Nat) (hc : c < 1099511627776) (hc0 : -1 ≤ c) : FnOk E0 239 [vi c, vs ⟨⟨l⟩⟩, vi i] [] (vi (moreI c l i)) [] := by
  apply fn_ok
  conv => whnf
  refine br_case (fun h => ?_) (fun h => ?_) <;> rw [h]
  · have h' : c < 0 := of_decide_eq_true h
    conv => whnf
    refine ends (by rfl) ?_
    show vi (-1) = _
    rw [moreI, if_pos h']
  have h' : ¬ c < 0 := of_decide_eq_false h
  conv => whnf
  refine br_case (fun h1 => ?_) (fun h1 => ?_) <;> rw [h1]
  · have h1' : (i : Int) ≥ (l.length : Nat) := of_decide_eq_true h1
    conv => whnf
    refine ends (by rfl) ?_
    show vi (-1) = _
    rw [moreI, if_neg h', List.getElem?_eq_none (by omega)]
  have h1' : ¬ (i : Int) ≥ (l.length : Nat) := of_decide_eq_false h1
  obtain ⟨b, hb⟩ : ∃ b, l[i]? = some b := ⟨_, List.getElem?_eq_getElem (by omega)⟩
  have hbl := b.toNat_lt
  have e : (⟨⟨l⟩⟩ : ByteArray).data.toList[Int.toNat (i : Int)]? = some b := hb
  conv => whnf
  rw [e]
  conv => whnf
  refine br_case (fun h2 => ?_) (fun h2 => ?_) <;> rw [h2]
  · have h2' : (b.toNat : Int) < 128 := of_decide_eq_true h2
    conv => whnf
    refine ends (by rfl) ?_
    show vi (-1) = _
    rw [moreI, if_neg h', hb]
    simp only []
    rw [if_neg (by simp [isC]; omega)]
  have h2' : ¬ (b.toNat : Int) < 128 := of_decide_eq_false h2
  conv => whnf
  rw [e]
  conv => whnf
  refine br_case (fun h3 => ?_) (fun h3 => ?_) <;> rw [h3]
  · have h3' : (b.toNat : Int) > 191 := of_decide_eq_true h3
    conv => whnf
    refine ends (by rfl) ?_
    show vi (-1) = _
    rw [moreI, if_neg h', hb]
    simp only []
    rw [if_neg (by simp [isC]; omega)]
  have h3' : ¬ (b.toNat : Int) > 191 := of_decide_eq_false h3
  conv => whnf
  rw [e]
  conv => whnf
  refine ends (by rfl) ?_
  show vi (IntKind.i64.wrap (IntKind.i64.wrap (IntKind.i64.wrap (c * 64) + IntKind.i64.wrap (b.toNat : Int)) - 128)) = _
  rw [w64 (n := c * 64) (by omega) (by omega), w64 (n := (b.toNat : Int)) (by omega) (by omega), w64 (n := c * 64 + (b.toNat : Int)) (by omega) (by omega), w64 (by omega) (by omega)]
  refine congrArg vi ?_
  rw [moreI, if_neg h', hb]
  simp only []
  rw [if_pos (by simp [isC]; omega)]
  omega
end Go.AI
