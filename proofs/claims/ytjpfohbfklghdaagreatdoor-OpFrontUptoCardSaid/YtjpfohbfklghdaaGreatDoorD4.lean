/-
  utf.Next: the character at the front. Conditions: those that each theorem lists (lengths far below the greatest).
-/
import Derived.Test.YtjpfohbfklghdaaGreatDoorD3
set_option linter.all false
set_option linter.unusedVariables false
set_option maxRecDepth 100000
namespace Go.AI
open Go.Proofs
attribute [local irreducible] callK leave

theorem ends {v r : AV} {rows : Rows} (hv : idsV v = []) (hr : v = r) : Option.bindP (leave 0 v rows) (fun p => p.1 = r ∧ p.2 = []) := bindP_of (leave0 hv) ⟨hr, rfl⟩

def chrI (c : Int) : Bool := decide (0 ≤ c) && decide (c ≤ 1114111) && (decide (c < 55296) || decide (57343 < c))
theorem chrI_nat (c : Nat) : chrI c = chrU c := by
  simp only [chrI, chrU, Int.natCast_nonneg, decide_true, Bool.true_and]
  rw [Bool.eq_iff_iff]
  simp only [Bool.and_eq_true, Bool.or_eq_true, decide_eq_true_eq]
  omega

/-- utf.character -/
theorem character_ok (c : Int) : FnOk E0 238 [vi c] [] (vb (chrI c)) [] := by
  apply fn_ok
  conv => whnf
  refine br_case (fun h0 => ?_) (fun h0 => ?_) <;> rw [h0]
  · have h0' : 0 ≤ c := of_decide_eq_true h0
    conv => whnf
    refine br_case (fun h => ?_) (fun h => ?_) <;> rw [h]
    · have h' : c ≤ 1114111 := of_decide_eq_true h
      conv => whnf
      refine br_case (fun h2 => ?_) (fun h2 => ?_) <;> rw [h2]
      · have h2' : c < 55296 := of_decide_eq_true h2
        conv => whnf
        refine ends (by rfl) ?_
        exact congrArg vb (show true = chrI c by simp [chrI, h0', h', h2'])
      · have h2' : ¬ c < 55296 := of_decide_eq_false h2
        conv => whnf
        refine ends (by rfl) ?_
        exact congrArg vb (show decide (c > 57343) = chrI c by simp [chrI, h0', h', h2'])
    · have h' : ¬ c ≤ 1114111 := of_decide_eq_false h
      conv => whnf
      refine ends (by rfl) ?_
      exact congrArg vb (show false = chrI c by simp [chrI, h'])
  · have h0' : ¬ 0 ≤ c := of_decide_eq_false h0
    conv => whnf
    refine ends (by rfl) ?_
    exact congrArg vb (show false = chrI c by simp [chrI, h0'])

def stepC (c : Int) (b : UInt8) : Int := IntKind.i64.wrap ((BitVec.ofInt 64 (IntKind.i64.wrap (c * 2 ^ (min (Int.toNat 6) 64))) ||| BitVec.ofInt 64 (IntKind.i64.wrap (IntKind.u8.wrap ((BitVec.ofInt 8 (b.toNat : Int) &&& BitVec.ofInt 8 63).toNat : Int)))).toNat : Int)

theorem stepC_eq {m : Nat} {b : UInt8} (hm : m < 1099511627776) (hb : isC b = true) : stepC m b = ((m * 64 + (b.toNat - 128) : Nat) : Int) := by
  simp only [isC, Bool.and_eq_true, decide_eq_true_eq] at hb
  have h1 : IntKind.u8.wrap ((BitVec.ofInt 8 (b.toNat : Int) &&& BitVec.ofInt 8 63).toNat : Int) = ((b.toNat - 128 : Nat) : Int) := and_3f b.toNat b.toNat_lt hb.1 hb.2
  have h2 : (m : Int) * 2 ^ (min (Int.toNat 6) 64) = ((m * 64 : Nat) : Int) := by
    have : (2 : Int) ^ (min (Int.toNat 6) 64) = 64 := by decide
    rw [this]; omega
  unfold stepC
  rw [h1, h2, w64 (n := ((m * 64 : Nat) : Int)) (by omega) (by omega), w64 (n := ((b.toNat - 128 : Nat) : Int)) (by omega) (by omega)]
  exact or_six hm (by omega)

theorem ext2 (b b1 : UInt8) (r : List UInt8) : ByteArray.extract ⟨⟨b :: b1 :: r⟩⟩ 1 2 = ⟨⟨[b1]⟩⟩ := by
  apply ByteArray.ext
  simp [ByteArray.extract, ByteArray.copySlice]
theorem ext3 (b b1 b2 : UInt8) (r : List UInt8) : ByteArray.extract ⟨⟨b :: b1 :: b2 :: r⟩⟩ 1 3 = ⟨⟨[b1, b2]⟩⟩ := by
  apply ByteArray.ext
  simp [ByteArray.extract, ByteArray.copySlice]
theorem ext4 (b b1 b2 b3 : UInt8) (r : List UInt8) : ByteArray.extract ⟨⟨b :: b1 :: b2 :: b3 :: r⟩⟩ 1 4 = ⟨⟨[b1, b2, b3]⟩⟩ := by
  apply ByteArray.ext
  simp [ByteArray.extract, ByteArray.copySlice]

/-- aux -/
theorem bad_byte (b : UInt8) (h : (IntKind.u8.wrap ((BitVec.ofInt 8 (b.toNat : Int) &&& BitVec.ofInt 8 192).toNat : Int) != 128) = true) : isC b = false := by
  rw [and_c0 _ b.toNat_lt] at h
  rwa [Bool.not_eq_true'] at h
theorem good_byte (b : UInt8) (h : (IntKind.u8.wrap ((BitVec.ofInt 8 (b.toNat : Int) &&& BitVec.ofInt 8 192).toNat : Int) != 128) = false) : isC b = true := by
  rw [and_c0 _ b.toNat_lt] at h
  simpa [isC] using h
theorem nextU2s {b : UInt8} {r : List UInt8} (hn : 192 ≤ b.toNat ∧ b.toNat < 224) (hr : r.length < 1) : nextU (b :: r) = (-1, 1) := by
  simp only [nextU]
  rw [if_neg (by omega), if_neg (by omega), if_pos (by omega)]
  match r, hr with
  | [], _ => rfl
theorem nextU3s {b : UInt8} {r : List UInt8} (hn : 224 ≤ b.toNat ∧ b.toNat < 240) (hr : r.length < 2) : nextU (b :: r) = (-1, 1) := by
  simp only [nextU]
  rw [if_neg (by omega), if_neg (by omega), if_neg (by omega), if_pos (by omega)]
  match r, hr with
  | [], _ => rfl
  | [_], _ => rfl
theorem nextU4s {b : UInt8} {r : List UInt8} (hn : 240 ≤ b.toNat ∧ b.toNat < 248) (hr : r.length < 3) : nextU (b :: r) = (-1, 1) := by
  simp only [nextU]
  rw [if_neg (by omega), if_neg (by omega), if_neg (by omega), if_neg (by omega), if_pos (by omega)]
  match r, hr with
  | [], _ => rfl
  | [_], _ => rfl
  | [_, _], _ => rfl
theorem nextU2_eq {b b1 : UInt8} {r : List UInt8} (hn : 192 ≤ b.toNat ∧ b.toNat < 224) : nextU (b :: b1 :: r) = if isC b1 = true ∧ 128 ≤ num2 b b1 then ((num2 b b1 : Int), 2) else (-1, 1) := by
  simp only [nextU]
  rw [if_neg (by omega), if_neg (by omega), if_pos (by omega)]
theorem nextU3_eq {b b1 b2 : UInt8} {r : List UInt8} (hn : 224 ≤ b.toNat ∧ b.toNat < 240) : nextU (b :: b1 :: b2 :: r) = if isC b1 = true ∧ isC b2 = true ∧ 2048 ≤ num3 b b1 b2 ∧ chrU (num3 b b1 b2) = true then ((num3 b b1 b2 : Int), 3) else (-1, 1) := by
  simp only [nextU]
  rw [if_neg (by omega), if_neg (by omega), if_neg (by omega), if_pos (by omega)]
theorem nextU4_eq {b b1 b2 b3 : UInt8} {r : List UInt8} (hn : 240 ≤ b.toNat ∧ b.toNat < 248) : nextU (b :: b1 :: b2 :: b3 :: r) = if isC b1 = true ∧ isC b2 = true ∧ isC b3 = true ∧ 65536 ≤ num4 b b1 b2 b3 ∧ chrU (num4 b b1 b2 b3) = true then ((num4 b b1 b2 b3 : Int), 4) else (-1, 1) := by
  simp only [nextU]
  rw [if_neg (by omega), if_neg (by omega), if_neg (by omega), if_neg (by omega), if_pos (by omega)]
theorem nextU_lo {b : UInt8} {r : List UInt8} (h : b.toNat < 128) : nextU (b :: r) = ((b.toNat : Int), 1) := by
  simp only [nextU]
  rw [if_pos (by omega)]
theorem nextU_bad {b : UInt8} {r : List UInt8} (h : 128 ≤ b.toNat) (h1 : b.toNat < 192 ∨ 248 ≤ b.toNat) : nextU (b :: r) = (-1, 1) := by
  simp only [nextU]
  rw [if_neg (by omega)]
  rcases h1 with h1 | h1
  · rw [if_pos (by omega)]
  · rw [if_neg (by omega), if_neg (by omega), if_neg (by omega), if_neg (by omega)]

set_option maxHeartbeats 4000000 in
/-- utf.Next -/
theorem next_ok (s : ByteArray) (hs : s.size < 4611686018427387904) : FnOk E0 193 [vs s] [] (.tup [vi (nextU s.data.toList).1, vi (nextU s.data.toList).2]) [] := by
  obtain ⟨⟨l⟩⟩ := s
  cases l with
  | nil => exact exec_ok (n := 5) (by kernel_rfl)
  | cons b r =>
    have hb := b.toNat_lt
    have hw : IntKind.i64.wrap (b.toNat : Int) = b.toNat := w64 (by omega) (by omega)
    apply fn_ok
    conv => whnf
    refine br_case (fun h => ?_) (fun h => ?_)
    · have h' : (IntKind.i64.wrap (b.toNat : Int)) < 128 := of_decide_eq_true h
      rw [hw] at h'
      conv => whnf
      refine ends (by rfl) ?_
      show AV.tup [vi (IntKind.i64.wrap (b.toNat : Int)), vi 1] = _
      rw [hw, nextU_lo (by omega)]; rfl
    have h' : ¬ (IntKind.i64.wrap (b.toNat : Int)) < 128 := of_decide_eq_false h
    rw [hw] at h'
    conv => whnf
    refine br_case (fun h2 => ?_) (fun h2 => ?_)
    · have hn : (IntKind.i64.wrap ((BitVec.ofInt 64 (IntKind.i64.wrap (b.toNat : Int)) &&& BitVec.ofInt 64 224).toNat : Int) == 192) = true := h2
      rw [hw, and_e0 _ hb] at hn
      simp only [Bool.and_eq_true, decide_eq_true_eq] at hn
      clear h2
      have hc0 : IntKind.i64.wrap ((BitVec.ofInt 64 (IntKind.i64.wrap (b.toNat : Int)) &&& BitVec.ofInt 64 31).toNat : Int) = ((b.toNat - 192 : Nat) : Int) := by rw [hw]; exact and_1f _ hb hn.1 hn.2
      cases r with
      | nil =>
        conv => whnf
        refine ends (by rfl) ?_
        show AV.tup [vi (-1), vi 1] = _
        rw [nextU2s hn (by simp)]; rfl
      | cons b1 r =>
        have q1 := b1.toNat_lt
        have hlen : (((⟨⟨b :: b1 :: r⟩⟩ : ByteArray).size : Nat) : Int) ≥ 2 := by simp [ByteArray.size]; omega
        conv => whnf
        refine br_case (fun h3 => ?_) (fun h3 => absurd (⟨by decide, hlen⟩ : (0 : Int) ≤ 2 ∧ (2 : Int) ≤ ((⟨⟨b :: b1 :: r⟩⟩ : ByteArray).size : Nat)) (of_decide_eq_false h3))
        conv => whnf
        generalize hq : ByteArray.extract _ _ _ = q
        obtain rfl : q = ⟨⟨[b1]⟩⟩ := hq.symm.trans (ext2 b b1 r)
        clear hq
        conv => whnf
        refine loop_unroll pr0 np0 mo0 ?_
        conv => whnf
        refine br_case (fun g0 => ?_) (fun g0 => ?_)
        · have c0 := bad_byte b1 g0
          conv => whnf
          refine ends (by rfl) ?_
          show AV.tup [vi (-1), vi 1] = _
          rw [nextU2_eq hn, if_neg (by simp [c0])]; rfl
        have c0 := good_byte b1 g0
        conv => whnf
        refine loop_unroll pr0 np0 mo0 ?_
        conv => whnf
        have hX : (stepC (IntKind.i64.wrap ((BitVec.ofInt 64 (IntKind.i64.wrap (b.toNat : Int)) &&& BitVec.ofInt 64 31).toNat : Int)) b1) = (num2 b b1 : Int) := by
          rw [hc0, stepC_eq (by omega) c0]; rfl
        refine br_case (fun g => ?_) (fun g => ?_) <;> rw [g]
        · have g1 : (stepC (IntKind.i64.wrap ((BitVec.ofInt 64 (IntKind.i64.wrap (b.toNat : Int)) &&& BitVec.ofInt 64 31).toNat : Int)) b1) < 128 := of_decide_eq_true g
          rw [hX] at g1
          conv => whnf
          refine ends (by rfl) ?_
          show AV.tup [vi (-1), vi 1] = _
          rw [nextU2_eq hn, if_neg (by omega)]; rfl
        have g1 : ¬ (stepC (IntKind.i64.wrap ((BitVec.ofInt 64 (IntKind.i64.wrap (b.toNat : Int)) &&& BitVec.ofInt 64 31).toNat : Int)) b1) < 128 := of_decide_eq_false g
        rw [hX] at g1
        conv => whnf
        refine callK0 (by kernel_rfl) rfl rfl (by rfl) (character_ok _) rfl ?_
        conv => whnf
        refine br_case (fun g2 => ?_) (fun g2 => ?_)
        · have g3 : (!(chrI (stepC (IntKind.i64.wrap ((BitVec.ofInt 64 (IntKind.i64.wrap (b.toNat : Int)) &&& BitVec.ofInt 64 31).toNat : Int)) b1))) = true := g2
          rw [hX, chrI_nat] at g3
          conv => whnf
          have hsm : num2 b b1 < 2048 := by have := b1.toNat_lt; have cc := c0; simp only [isC, Bool.and_eq_true, decide_eq_true_eq] at cc; unfold num2; omega
          have hch : chrU (num2 b b1) = true := by unfold chrU; rw [decide_eq_true (by omega), decide_eq_true (by omega : num2 b b1 < 55296)]; rfl
          exact absurd hch (by simpa using g3)
        have g3 : (!(chrI (stepC (IntKind.i64.wrap ((BitVec.ofInt 64 (IntKind.i64.wrap (b.toNat : Int)) &&& BitVec.ofInt 64 31).toNat : Int)) b1))) = false := g2
        rw [hX, chrI_nat] at g3
        conv => whnf
        refine ends (by rfl) ?_
        show AV.tup [vi (stepC (IntKind.i64.wrap ((BitVec.ofInt 64 (IntKind.i64.wrap (b.toNat : Int)) &&& BitVec.ofInt 64 31).toNat : Int)) b1), vi 2] = _
        rw [hX, nextU2_eq hn, if_pos ⟨c0, by omega⟩]; rfl
    have n2 : (IntKind.i64.wrap ((BitVec.ofInt 64 (IntKind.i64.wrap (b.toNat : Int)) &&& BitVec.ofInt 64 224).toNat : Int) == 192) = false := h2
    rw [hw, and_e0 _ hb] at n2
    simp only [Bool.and_eq_false_iff, decide_eq_false_iff_not] at n2
    conv => whnf
    refine br_case (fun h3 => ?_) (fun h3 => ?_)
    · have hn : (IntKind.i64.wrap ((BitVec.ofInt 64 (IntKind.i64.wrap (b.toNat : Int)) &&& BitVec.ofInt 64 240).toNat : Int) == 224) = true := h3
      rw [hw, and_f0 _ hb] at hn
      simp only [Bool.and_eq_true, decide_eq_true_eq] at hn
      clear h3
      have hc0 : IntKind.i64.wrap ((BitVec.ofInt 64 (IntKind.i64.wrap (b.toNat : Int)) &&& BitVec.ofInt 64 15).toNat : Int) = ((b.toNat - 224 : Nat) : Int) := by rw [hw]; exact and_0f _ hb hn.1 hn.2
      cases r with
      | nil =>
        conv => whnf
        refine ends (by rfl) ?_
        show AV.tup [vi (-1), vi 1] = _
        rw [nextU3s hn (by simp)]; rfl
      | cons b1 r =>
        have q1 := b1.toNat_lt
        cases r with
        | nil =>
          conv => whnf
          refine ends (by rfl) ?_
          show AV.tup [vi (-1), vi 1] = _
          rw [nextU3s hn (by simp)]; rfl
        | cons b2 r =>
          have q2 := b2.toNat_lt
          have hlen : (((⟨⟨b :: b1 :: b2 :: r⟩⟩ : ByteArray).size : Nat) : Int) ≥ 3 := by simp [ByteArray.size]; omega
          conv => whnf
          refine br_case (fun h3 => ?_) (fun h3 => absurd (⟨by decide, hlen⟩ : (0 : Int) ≤ 3 ∧ (3 : Int) ≤ ((⟨⟨b :: b1 :: b2 :: r⟩⟩ : ByteArray).size : Nat)) (of_decide_eq_false h3))
          conv => whnf
          generalize hq : ByteArray.extract _ _ _ = q
          obtain rfl : q = ⟨⟨[b1, b2]⟩⟩ := hq.symm.trans (ext3 b b1 b2 r)
          clear hq
          conv => whnf
          refine loop_unroll pr0 np0 mo0 ?_
          conv => whnf
          refine br_case (fun g0 => ?_) (fun g0 => ?_)
          · have c0 := bad_byte b1 g0
            conv => whnf
            refine ends (by rfl) ?_
            show AV.tup [vi (-1), vi 1] = _
            rw [nextU3_eq hn, if_neg (by simp [c0])]; rfl
          have c0 := good_byte b1 g0
          conv => whnf
          refine loop_unroll pr0 np0 mo0 ?_
          conv => whnf
          refine br_case (fun g1 => ?_) (fun g1 => ?_)
          · have c1 := bad_byte b2 g1
            conv => whnf
            refine ends (by rfl) ?_
            show AV.tup [vi (-1), vi 1] = _
            rw [nextU3_eq hn, if_neg (by simp [c1])]; rfl
          have c1 := good_byte b2 g1
          conv => whnf
          refine loop_unroll pr0 np0 mo0 ?_
          conv => whnf
          have hX : (stepC (stepC (IntKind.i64.wrap ((BitVec.ofInt 64 (IntKind.i64.wrap (b.toNat : Int)) &&& BitVec.ofInt 64 15).toNat : Int)) b1) b2) = (num3 b b1 b2 : Int) := by
            rw [hc0, stepC_eq (by omega) c0, stepC_eq (by omega) c1]; rfl
          refine br_case (fun g => ?_) (fun g => ?_) <;> rw [g]
          · have g1 : (stepC (stepC (IntKind.i64.wrap ((BitVec.ofInt 64 (IntKind.i64.wrap (b.toNat : Int)) &&& BitVec.ofInt 64 15).toNat : Int)) b1) b2) < 2048 := of_decide_eq_true g
            rw [hX] at g1
            conv => whnf
            refine ends (by rfl) ?_
            show AV.tup [vi (-1), vi 1] = _
            rw [nextU3_eq hn, if_neg (by omega)]; rfl
          have g1 : ¬ (stepC (stepC (IntKind.i64.wrap ((BitVec.ofInt 64 (IntKind.i64.wrap (b.toNat : Int)) &&& BitVec.ofInt 64 15).toNat : Int)) b1) b2) < 2048 := of_decide_eq_false g
          rw [hX] at g1
          conv => whnf
          refine callK0 (by kernel_rfl) rfl rfl (by rfl) (character_ok _) rfl ?_
          conv => whnf
          refine br_case (fun g2 => ?_) (fun g2 => ?_)
          · have g3 : (!(chrI (stepC (stepC (IntKind.i64.wrap ((BitVec.ofInt 64 (IntKind.i64.wrap (b.toNat : Int)) &&& BitVec.ofInt 64 15).toNat : Int)) b1) b2))) = true := g2
            rw [hX, chrI_nat] at g3
            conv => whnf
            refine ends (by rfl) ?_
            show AV.tup [vi (-1), vi 1] = _
            rw [nextU3_eq hn, if_neg (by simp at g3; simp [g3])]; rfl
          have g3 : (!(chrI (stepC (stepC (IntKind.i64.wrap ((BitVec.ofInt 64 (IntKind.i64.wrap (b.toNat : Int)) &&& BitVec.ofInt 64 15).toNat : Int)) b1) b2))) = false := g2
          rw [hX, chrI_nat] at g3
          conv => whnf
          refine ends (by rfl) ?_
          show AV.tup [vi (stepC (stepC (IntKind.i64.wrap ((BitVec.ofInt 64 (IntKind.i64.wrap (b.toNat : Int)) &&& BitVec.ofInt 64 15).toNat : Int)) b1) b2), vi 3] = _
          rw [hX, nextU3_eq hn, if_pos ⟨c0, c1, by omega, by simpa using g3⟩]; rfl
    have n3 : (IntKind.i64.wrap ((BitVec.ofInt 64 (IntKind.i64.wrap (b.toNat : Int)) &&& BitVec.ofInt 64 240).toNat : Int) == 224) = false := h3
    rw [hw, and_f0 _ hb] at n3
    simp only [Bool.and_eq_false_iff, decide_eq_false_iff_not] at n3
    conv => whnf
    refine br_case (fun h4 => ?_) (fun h4 => ?_)
    · have hn : (IntKind.i64.wrap ((BitVec.ofInt 64 (IntKind.i64.wrap (b.toNat : Int)) &&& BitVec.ofInt 64 248).toNat : Int) == 240) = true := h4
      rw [hw, and_f8 _ hb] at hn
      simp only [Bool.and_eq_true, decide_eq_true_eq] at hn
      clear h4
      have hc0 : IntKind.i64.wrap ((BitVec.ofInt 64 (IntKind.i64.wrap (b.toNat : Int)) &&& BitVec.ofInt 64 7).toNat : Int) = ((b.toNat - 240 : Nat) : Int) := by rw [hw]; exact and_07 _ hb hn.1 hn.2
      cases r with
      | nil =>
        conv => whnf
        refine ends (by rfl) ?_
        show AV.tup [vi (-1), vi 1] = _
        rw [nextU4s hn (by simp)]; rfl
      | cons b1 r =>
        have q1 := b1.toNat_lt
        cases r with
        | nil =>
          conv => whnf
          refine ends (by rfl) ?_
          show AV.tup [vi (-1), vi 1] = _
          rw [nextU4s hn (by simp)]; rfl
        | cons b2 r =>
          have q2 := b2.toNat_lt
          cases r with
          | nil =>
            conv => whnf
            refine ends (by rfl) ?_
            show AV.tup [vi (-1), vi 1] = _
            rw [nextU4s hn (by simp)]; rfl
          | cons b3 r =>
            have q3 := b3.toNat_lt
            have hlen : (((⟨⟨b :: b1 :: b2 :: b3 :: r⟩⟩ : ByteArray).size : Nat) : Int) ≥ 4 := by simp [ByteArray.size]; omega
            conv => whnf
            refine br_case (fun h3 => ?_) (fun h3 => absurd (⟨by decide, hlen⟩ : (0 : Int) ≤ 4 ∧ (4 : Int) ≤ ((⟨⟨b :: b1 :: b2 :: b3 :: r⟩⟩ : ByteArray).size : Nat)) (of_decide_eq_false h3))
            conv => whnf
            generalize hq : ByteArray.extract _ _ _ = q
            obtain rfl : q = ⟨⟨[b1, b2, b3]⟩⟩ := hq.symm.trans (ext4 b b1 b2 b3 r)
            clear hq
            conv => whnf
            refine loop_unroll pr0 np0 mo0 ?_
            conv => whnf
            refine br_case (fun g0 => ?_) (fun g0 => ?_)
            · have c0 := bad_byte b1 g0
              conv => whnf
              refine ends (by rfl) ?_
              show AV.tup [vi (-1), vi 1] = _
              rw [nextU4_eq hn, if_neg (by simp [c0])]; rfl
            have c0 := good_byte b1 g0
            conv => whnf
            refine loop_unroll pr0 np0 mo0 ?_
            conv => whnf
            refine br_case (fun g1 => ?_) (fun g1 => ?_)
            · have c1 := bad_byte b2 g1
              conv => whnf
              refine ends (by rfl) ?_
              show AV.tup [vi (-1), vi 1] = _
              rw [nextU4_eq hn, if_neg (by simp [c1])]; rfl
            have c1 := good_byte b2 g1
            conv => whnf
            refine loop_unroll pr0 np0 mo0 ?_
            conv => whnf
            refine br_case (fun g2 => ?_) (fun g2 => ?_)
            · have c2 := bad_byte b3 g2
              conv => whnf
              refine ends (by rfl) ?_
              show AV.tup [vi (-1), vi 1] = _
              rw [nextU4_eq hn, if_neg (by simp [c2])]; rfl
            have c2 := good_byte b3 g2
            conv => whnf
            refine loop_unroll pr0 np0 mo0 ?_
            conv => whnf
            have hX : (stepC (stepC (stepC (IntKind.i64.wrap ((BitVec.ofInt 64 (IntKind.i64.wrap (b.toNat : Int)) &&& BitVec.ofInt 64 7).toNat : Int)) b1) b2) b3) = (num4 b b1 b2 b3 : Int) := by
              rw [hc0, stepC_eq (by omega) c0, stepC_eq (by omega) c1, stepC_eq (by omega) c2]; rfl
            refine br_case (fun g => ?_) (fun g => ?_) <;> rw [g]
            · have g1 : (stepC (stepC (stepC (IntKind.i64.wrap ((BitVec.ofInt 64 (IntKind.i64.wrap (b.toNat : Int)) &&& BitVec.ofInt 64 7).toNat : Int)) b1) b2) b3) < 65536 := of_decide_eq_true g
              rw [hX] at g1
              conv => whnf
              refine ends (by rfl) ?_
              show AV.tup [vi (-1), vi 1] = _
              rw [nextU4_eq hn, if_neg (by omega)]; rfl
            have g1 : ¬ (stepC (stepC (stepC (IntKind.i64.wrap ((BitVec.ofInt 64 (IntKind.i64.wrap (b.toNat : Int)) &&& BitVec.ofInt 64 7).toNat : Int)) b1) b2) b3) < 65536 := of_decide_eq_false g
            rw [hX] at g1
            conv => whnf
            refine callK0 (by kernel_rfl) rfl rfl (by rfl) (character_ok _) rfl ?_
            conv => whnf
            refine br_case (fun g2 => ?_) (fun g2 => ?_)
            · have g3 : (!(chrI (stepC (stepC (stepC (IntKind.i64.wrap ((BitVec.ofInt 64 (IntKind.i64.wrap (b.toNat : Int)) &&& BitVec.ofInt 64 7).toNat : Int)) b1) b2) b3))) = true := g2
              rw [hX, chrI_nat] at g3
              conv => whnf
              refine ends (by rfl) ?_
              show AV.tup [vi (-1), vi 1] = _
              rw [nextU4_eq hn, if_neg (by simp at g3; simp [g3])]; rfl
            have g3 : (!(chrI (stepC (stepC (stepC (IntKind.i64.wrap ((BitVec.ofInt 64 (IntKind.i64.wrap (b.toNat : Int)) &&& BitVec.ofInt 64 7).toNat : Int)) b1) b2) b3))) = false := g2
            rw [hX, chrI_nat] at g3
            conv => whnf
            refine ends (by rfl) ?_
            show AV.tup [vi (stepC (stepC (stepC (IntKind.i64.wrap ((BitVec.ofInt 64 (IntKind.i64.wrap (b.toNat : Int)) &&& BitVec.ofInt 64 7).toNat : Int)) b1) b2) b3), vi 4] = _
            rw [hX, nextU4_eq hn, if_pos ⟨c0, c1, c2, by omega, by simpa using g3⟩]; rfl
    have n4 : (IntKind.i64.wrap ((BitVec.ofInt 64 (IntKind.i64.wrap (b.toNat : Int)) &&& BitVec.ofInt 64 248).toNat : Int) == 240) = false := h4
    rw [hw, and_f8 _ hb] at n4
    simp only [Bool.and_eq_false_iff, decide_eq_false_iff_not] at n4
    conv => whnf
    refine ends (by rfl) ?_
    show AV.tup [vi (-1), vi 1] = _
    rw [nextU_bad (by omega) (by omega)]; rfl
end Go.AI
