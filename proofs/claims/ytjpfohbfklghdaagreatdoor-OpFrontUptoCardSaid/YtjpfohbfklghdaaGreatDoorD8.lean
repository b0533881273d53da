/-
  ref03.Next: the character at the front, as utf.Next says. Conditions: those that each theorem lists (lengths far below the greatest).
-/
import Derived.Test.YtjpfohbfklghdaaGreatDoorD7
set_option linter.all false
set_option linter.unusedVariables false
set_option maxRecDepth 100000
namespace Go.AI
open Go.Proofs

theorem wdiv (n k : Nat) (hk : 0 < k) (hn : n < 4611686018427387904) : IntKind.i64.wrap ((n : Int).tdiv (k : Int)) = ((n / k : Nat) : Int) := by
  rw [← Int.ofNat_tdiv]
  have := Nat.div_le_self n k
  generalize n / k = m at *
  exact w64 (by omega) (by omega)
theorem w6n (n : Nat) (hn : n < 64) : w6 (n : Int) = ((128 + n : Nat) : Int) := by
  unfold w6
  rw [w64 (by omega) (by omega)]; omega
theorem tmod64 (n : Nat) : ((n : Int).tmod 64) = ((n % 64 : Nat) : Int) := by
  rw [show (64 : Int) = ((64 : Nat) : Int) from rfl, ← Int.ofNat_tmod]

theorem putL1 {n : Nat} (h : n < 128) : putL (n : Int) = [ub (n : Int)] := by
  rw [putL, if_neg (by omega), if_pos (by omega)]
theorem putL2 {n : Nat} (h : 128 ≤ n) (h1 : n < 2048) : putL (n : Int) = [ub ((192 + n / 64 : Nat) : Int), ub ((128 + n % 64 : Nat) : Int)] := by
  have e1 : IntKind.i64.wrap ((n : Int).tdiv 64) = ((n / 64 : Nat) : Int) := wdiv n 64 (by decide) (by omega)
  rw [putL, if_neg (by omega), if_neg (by omega), if_pos (by omega), e1, w64 (n := 192 + ((n / 64 : Nat) : Int)) (by omega) (by omega), tmod64, w6n _ (by omega)]
  rfl
theorem putL3 {n : Nat} (h : 2048 ≤ n) (h1 : n < 65536) (h2 : ¬(55296 ≤ n ∧ n ≤ 57343)) : putL (n : Int) = [ub ((224 + n / 4096 : Nat) : Int), ub ((128 + n / 64 % 64 : Nat) : Int), ub ((128 + n % 64 : Nat) : Int)] := by
  have e1 : IntKind.i64.wrap ((n : Int).tdiv 4096) = ((n / 4096 : Nat) : Int) := wdiv n 4096 (by decide) (by omega)
  have e2 : IntKind.i64.wrap ((n : Int).tdiv 64) = ((n / 64 : Nat) : Int) := wdiv n 64 (by decide) (by omega)
  rw [putL, if_neg (by omega), if_neg (by omega), if_neg (by omega), if_pos (by omega), e1, e2, w64 (n := 224 + ((n / 4096 : Nat) : Int)) (by omega) (by omega), tmod64, tmod64, w6n _ (by omega), w6n _ (by omega)]
  rfl
theorem putL4 {n : Nat} (h : 65536 ≤ n) (h1 : n ≤ 1114111) : putL (n : Int) = [ub ((240 + n / 262144 : Nat) : Int), ub ((128 + n / 4096 % 64 : Nat) : Int), ub ((128 + n / 64 % 64 : Nat) : Int), ub ((128 + n % 64 : Nat) : Int)] := by
  have e1 : IntKind.i64.wrap ((n : Int).tdiv 262144) = ((n / 262144 : Nat) : Int) := wdiv n 262144 (by decide) (by omega)
  have e2 : IntKind.i64.wrap ((n : Int).tdiv 64) = ((n / 64 : Nat) : Int) := wdiv n 64 (by decide) (by omega)
  have e3 : IntKind.i64.wrap ((n : Int).tdiv 4096) = ((n / 4096 : Nat) : Int) := wdiv n 4096 (by decide) (by omega)
  rw [putL, if_neg (by omega), if_neg (by omega), if_neg (by omega), if_neg (by omega), e1, e2, e3, w64 (n := 240 + ((n / 262144 : Nat) : Int)) (by omega) (by omega), tmod64, tmod64, tmod64, w6n _ (by omega), w6n _ (by omega), w6n _ (by omega)]
  rfl
theorem putL0 {n : Nat} (h : n > 1114111 ∨ (55296 ≤ n ∧ n ≤ 57343)) : putL (n : Int) = [] := by
  rw [putL, if_pos (by omega)]

theorem ub_ne {n : Nat} {b : UInt8} (hn : n < 256) (h : n ≠ b.toNat) : ub (n : Int) ≠ b := fun e => h (by rw [← ub_nat n hn, e])

/-- What Next makes of a number that the bytes don't write. -/
theorem refN_bad {l : List UInt8} (h : putL (refC l) = [] ∨ (putL (refC l)).length > l.length ∨ l.take (putL (refC l)).length ≠ putL (refC l)) : refN l = (-1, 1) := by rw [refN, if_pos h]
theorem refN_good {l : List UInt8} {p : List UInt8} (hp : putL (refC l) = p) (h : p ≠ []) (h1 : p.length ≤ l.length) (h2 : l.take p.length = p) : refN l = (refC l, p.length) := by
  rw [refN, hp, if_neg]
  rintro (e | e | e)
  · exact h e
  · omega
  · exact e h2

theorem moreI_none {c : Int} {l : List UInt8} {i : Nat} (h : l.length ≤ i) : moreI c l i = -1 := by
  rw [moreI]
  split
  · rfl
  · rw [List.getElem?_eq_none h]
theorem moreI_neg {l : List UInt8} {i : Nat} : moreI (-1) l i = -1 := by rw [moreI, if_pos (by decide)]
theorem moreI_bad {c : Int} {l : List UInt8} {i : Nat} {b : UInt8} (h : l[i]? = some b) (hb : isC b = false) : moreI c l i = -1 := by
  rw [moreI]
  split
  · rfl
  · rw [h]; simp only []; rw [if_neg (by rw [hb]; decide)]
theorem moreI_good {c : Nat} {l : List UInt8} {i : Nat} {b : UInt8} (h : l[i]? = some b) (hb : isC b = true) : moreI c l i = ((c * 64 + (b.toNat - 128) : Nat) : Int) := by
  rw [moreI, if_neg (by omega), h]
  simp only []
  rw [if_pos hb]
  omega

theorem isC_spec {b : UInt8} (h : isC b = true) : 128 ≤ b.toNat ∧ b.toNat < 192 := by simpa [isC] using h

theorem refN_neg {l : List UInt8} (h : refC l = -1) : refN l = (-1, 1) := refN_bad (.inl (by rw [h]; exact putL_neg))

theorem refN_eq : ∀ l : List UInt8, l ≠ [] → refN l = nextU l
  | [], h => absurd rfl h
  | b :: r, _ => by
    have hb := b.toNat_lt
    by_cases h1 : b.toNat < 128
    · rw [nextU_lo h1]
      have hC : refC (b :: r) = (b.toNat : Int) := by rw [refC, if_pos h1]
      have := refN_good (l := b :: r) (p := [b]) (by rw [hC, putL1 h1, ub_eq rfl]) (by simp) (by simp) (by simp)
      rw [this, hC]; rfl
    by_cases h2 : b.toNat < 192 ∨ 248 ≤ b.toNat
    · rw [nextU_bad (by omega) h2]
      exact refN_neg (by rw [refC, if_neg h1, if_neg (by omega), if_neg (by omega), if_neg (by omega)])
    by_cases h3 : b.toNat < 224
    · have hn : 192 ≤ b.toNat ∧ b.toNat < 224 := ⟨by omega, h3⟩
      have hC : refC (b :: r) = moreI (b.toNat - 192 : Nat) (b :: r) 1 := by rw [refC, if_neg h1, if_pos hn]
      cases r with
      | nil => rw [nextU2s hn (by simp)]; exact refN_neg (by rw [hC, moreI_none (by simp)])
      | cons b1 r =>
        rw [nextU2_eq hn]
        cases c1 : isC b1 with
        | false => rw [if_neg (by simp)]; exact refN_neg (by rw [hC, moreI_bad (b := b1) rfl c1])
        | true =>
          have k1 := isC_spec c1
          rw [moreI_good (b := b1) rfl c1] at hC
          have hC : refC (b :: b1 :: r) = ((num2 b b1 : Nat) : Int) := hC
          by_cases hlo : 128 ≤ num2 b b1
          · rw [if_pos ⟨rfl, hlo⟩]
            have hhi : num2 b b1 < 2048 := by unfold num2; omega
            have := refN_good (l := b :: b1 :: r) (p := [b, b1]) (by rw [hC, putL2 hlo hhi, ub_eq (b := b) (by unfold num2; omega), ub_eq (b := b1) (by unfold num2; omega)]) (by simp) (by simp) (by simp)
            rw [this, hC]; rfl
          · rw [if_neg (by simp; omega)]
            refine refN_bad (.inr (.inr ?_))
            rw [hC, putL1 (by omega)]
            intro e
            simp only [List.length_cons, List.length_nil, List.take_succ_cons, List.take_zero, List.cons.injEq, and_true] at e
            exact ub_ne (by omega) (by omega) e.symm
    by_cases h4 : b.toNat < 240
    · have hn : 224 ≤ b.toNat ∧ b.toNat < 240 := ⟨by omega, h4⟩
      have hC : refC (b :: r) = moreI (moreI (b.toNat - 224 : Nat) (b :: r) 1) (b :: r) 2 := by rw [refC, if_neg h1, if_neg (by omega), if_pos hn]
      match r, hC with
      | [], hC => rw [nextU3s hn (by simp)]; exact refN_neg (by rw [hC, moreI_none (by simp)])
      | [b1], hC => rw [nextU3s hn (by simp)]; exact refN_neg (by rw [hC, moreI_none (by simp)])
      | b1 :: b2 :: r, hC =>
        rw [nextU3_eq hn]
        cases c1 : isC b1 with
        | false => rw [if_neg (by simp)]; exact refN_neg (by rw [hC, moreI_bad (b := b1) (i := 1) rfl c1, moreI_neg])
        | true =>
          cases c2 : isC b2 with
          | false => rw [if_neg (by simp)]; exact refN_neg (by rw [hC, moreI_bad (b := b2) (i := 2) rfl c2])
          | true =>
            have k1 := isC_spec c1
            have k2 := isC_spec c2
            rw [moreI_good (b := b1) (i := 1) rfl c1, moreI_good (b := b2) (i := 2) rfl c2] at hC
            have hC : refC (b :: b1 :: b2 :: r) = ((num3 b b1 b2 : Nat) : Int) := hC
            have hmx : num3 b b1 b2 < 65536 := by unfold num3; omega
            by_cases hlo : 2048 ≤ num3 b b1 b2
            · cases hch : chrU (num3 b b1 b2) with
              | true =>
                rw [if_pos ⟨rfl, rfl, hlo, rfl⟩]
                simp only [chrU, Bool.and_eq_true, Bool.or_eq_true, decide_eq_true_eq] at hch
                have := refN_good (l := b :: b1 :: b2 :: r) (p := [b, b1, b2]) (by rw [hC, putL3 hlo hmx (by omega), ub_eq (b := b) (by unfold num3; omega), ub_eq (b := b1) (by unfold num3; omega), ub_eq (b := b2) (by unfold num3; omega)]) (by simp) (by simp) (by simp)
                rw [this, hC]; rfl
              | false =>
                rw [if_neg (by simp)]
                simp only [chrU, Bool.and_eq_false_iff, Bool.or_eq_false_iff, decide_eq_false_iff_not] at hch
                exact refN_bad (.inl (by rw [hC, putL0 (by omega)]))
            · rw [if_neg (by simp; omega)]
              refine refN_bad (.inr (.inr ?_))
              rw [hC]
              by_cases hl2 : num3 b b1 b2 < 128
              · rw [putL1 hl2]
                intro e
                simp only [List.length_cons, List.length_nil, List.take_succ_cons, List.take_zero, List.cons.injEq, and_true] at e
                exact ub_ne (by omega) (by omega) e.symm
              · rw [putL2 (by omega) (by omega)]
                intro e
                simp only [List.length_cons, List.length_nil, List.take_succ_cons, List.take_zero, List.cons.injEq, and_true] at e
                exact ub_ne (by omega) (by omega) e.1.symm
    · have hn : 240 ≤ b.toNat ∧ b.toNat < 248 := ⟨by omega, by omega⟩
      have hC : refC (b :: r) = moreI (moreI (moreI (b.toNat - 240 : Nat) (b :: r) 1) (b :: r) 2) (b :: r) 3 := by rw [refC, if_neg h1, if_neg (by omega), if_neg (by omega), if_pos hn]
      match r, hC with
      | [], hC => rw [nextU4s hn (by simp)]; exact refN_neg (by rw [hC, moreI_none (by simp)])
      | [b1], hC => rw [nextU4s hn (by simp)]; exact refN_neg (by rw [hC, moreI_none (by simp)])
      | [b1, b2], hC => rw [nextU4s hn (by simp)]; exact refN_neg (by rw [hC, moreI_none (by simp)])
      | b1 :: b2 :: b3 :: r, hC =>
        rw [nextU4_eq hn]
        cases c1 : isC b1 with
        | false => rw [if_neg (by simp)]; exact refN_neg (by rw [hC, moreI_bad (b := b1) (i := 1) rfl c1, moreI_neg, moreI_neg])
        | true =>
          cases c2 : isC b2 with
          | false => rw [if_neg (by simp)]; exact refN_neg (by rw [hC, moreI_bad (b := b2) (i := 2) rfl c2, moreI_neg])
          | true =>
            cases c3 : isC b3 with
            | false => rw [if_neg (by simp)]; exact refN_neg (by rw [hC, moreI_bad (b := b3) (i := 3) rfl c3])
            | true =>
              have k1 := isC_spec c1
              have k2 := isC_spec c2
              have k3 := isC_spec c3
              rw [moreI_good (b := b1) (i := 1) rfl c1, moreI_good (b := b2) (i := 2) rfl c2, moreI_good (b := b3) (i := 3) rfl c3] at hC
              have hC : refC (b :: b1 :: b2 :: b3 :: r) = ((num4 b b1 b2 b3 : Nat) : Int) := hC
              by_cases hlo : 65536 ≤ num4 b b1 b2 b3
              · cases hch : chrU (num4 b b1 b2 b3) with
                | true =>
                  rw [if_pos ⟨rfl, rfl, rfl, hlo, rfl⟩]
                  simp only [chrU, Bool.and_eq_true, Bool.or_eq_true, decide_eq_true_eq] at hch
                  have := refN_good (l := b :: b1 :: b2 :: b3 :: r) (p := [b, b1, b2, b3]) (by rw [hC, putL4 hlo hch.1, ub_eq (b := b) (by unfold num4; omega), ub_eq (b := b1) (by unfold num4; omega), ub_eq (b := b2) (by unfold num4; omega), ub_eq (b := b3) (by unfold num4; omega)]) (by simp) (by simp) (by simp)
                  rw [this, hC]; rfl
                | false =>
                  rw [if_neg (by simp)]
                  simp only [chrU, Bool.and_eq_false_iff, Bool.or_eq_false_iff, decide_eq_false_iff_not] at hch
                  exact refN_bad (.inl (by rw [hC, putL0 (by omega)]))
              · rw [if_neg (by simp; omega)]
                by_cases hl0 : 55296 ≤ num4 b b1 b2 b3 ∧ num4 b b1 b2 b3 ≤ 57343
                · exact refN_bad (.inl (by rw [hC, putL0 (.inr hl0)]))
                refine refN_bad (.inr (.inr ?_))
                rw [hC]
                by_cases hl2 : num4 b b1 b2 b3 < 128
                · rw [putL1 hl2]
                  intro e
                  simp only [List.length_cons, List.length_nil, List.take_succ_cons, List.take_zero, List.cons.injEq, and_true] at e
                  exact ub_ne (by omega) (by omega) e.symm
                by_cases hl3 : num4 b b1 b2 b3 < 2048
                · rw [putL2 (by omega) hl3]
                  intro e
                  simp only [List.length_cons, List.length_nil, List.take_succ_cons, List.take_zero, List.cons.injEq, and_true] at e
                  exact ub_ne (by omega) (by omega) e.1.symm
                · rw [putL3 (by omega) (by omega) hl0]
                  intro e
                  simp only [List.length_cons, List.length_nil, List.take_succ_cons, List.take_zero, List.cons.injEq, and_true] at e
                  exact ub_ne (by omega) (by omega) e.1.symm

/-- ref03.Next -/
theorem rnext_ok (s : ByteArray) (hs : s.size < 4611686018427387904) : FnOk E0 194 [vs s] [] (.tup [vi (nextU s.data.toList).1, vi (nextU s.data.toList).2]) [] := by
  obtain ⟨⟨l⟩⟩ := s
  cases l with
  | nil => exact exec_ok (n := 5) (by kernel_rfl)
  | cons b r =>
    have hb := b.toNat_lt
    show FnOk E0 194 [vs ⟨⟨b :: r⟩⟩] [] (.tup [vi (nextU (b :: r)).1, vi (nextU (b :: r)).2]) []
    rw [← refN_eq _ (by simp)]
    have hs' : (b :: r).length < 4611686018427387904 := hs
    by_cases h1 : b.toNat < 128
    · exact rn_lo b r hs' h1
    by_cases h2 : b.toNat < 192
    · exact rn_mid b r hs' ⟨by omega, h2⟩
    by_cases h3 : b.toNat < 224
    · exact rn_2 b r hs' ⟨by omega, h3⟩
    by_cases h4 : b.toNat < 240
    · exact rn_3 b r hs' ⟨by omega, h4⟩
    by_cases h5 : b.toNat < 248
    · exact rn_4 b r hs' ⟨by omega, h5⟩
    · exact rn_hi b r hs' (by omega)
end Go.AI
