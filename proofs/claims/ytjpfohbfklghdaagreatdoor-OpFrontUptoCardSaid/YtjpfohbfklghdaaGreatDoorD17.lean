/-
  ref15.Check: the same as op.Check. Conditions: those that each theorem lists (lengths far below the greatest).
-/
import Derived.Test.YtjpfohbfklghdaaGreatDoorD16
set_option linter.all false
set_option linter.unusedVariables false
set_option maxRecDepth 100000
namespace Go.AI
open Go.Proofs
attribute [local irreducible] callK leave validU validS fromS toS atS bareS mkS kindS

theorem bad_in {x : Col} {last : Int} {rest : List Col} (h : (tagS x.tag last && kindS x.kind && eB x.name) = false) : inS last (x :: rest) = false := by
  show (tagS x.tag last && kindS x.kind && eB x.name && inS x.tag rest) = false
  rw [h]; rfl
theorem good_in {x : Col} {last : Int} {rest : List Col} (h : (tagS x.tag last && kindS x.kind && eB x.name) = true) : inS last (x :: rest) = inS x.tag rest := by
  show (tagS x.tag last && kindS x.kind && eB x.name && inS x.tag rest) = _
  rw [h]; rfl

set_option maxHeartbeats 4000000 in
/-- ref15.Check -/
theorem rcheck_walk (c : Cd) (hc : ∀ o ∈ c.ops, o.sep.size < 4611686018427387904 ∧ o.val.s.size < 4611686018427387904) (h1 : c.inn.length < 4611686018427387904) (h2 : c.ops.length < 4611686018427387904) (h3 : c.out.length < 4611686018427387904) :
    fnK E0 24 [.agg (cdC c)] [] (chkR (chkS c)) := by
  conv => whnf
  refine loop_ind pr0 np0 mo0 (fun a : Nat × Int => ⟨tmps [(1, .ptr 0 0), (5, vi a.1)], [⟨cdC c, .is 26, true⟩]⟩) (fun a => c.inn.length - a.1)
    (fun a => a.1 ≤ c.inn.length ∧ inS 0 c.inn = inS a.2 (c.inn.drop a.1) ∧ (a.1 = 0 → a.2 = 0) ∧ (0 < a.1 → ∃ y, c.inn[a.1 - 1]? = some y ∧ y.tag = a.2 ∧ 1 ≤ a.2)) ?_ (0, 0) ⟨Nat.zero_le _, rfl, fun _ => rfl, fun h => absurd h (by decide)⟩
    (cln_ns [0] (by decide) (fun i hi => absurd hi (Nat.not_lt_zero i)) ⟨⟨_, rfl, rfl, rfl⟩, trivial⟩ ⟨⟨rfl, rfl⟩, ⟨rfl, rfl⟩, trivial⟩)
  rintro ⟨i, last⟩ ⟨hi, hin, hl0, hl1⟩
  simp only at hi hin hl0 hl1
  conv => whnf
  refine br_case (fun g => ?_) (fun g => ?_)
  · have gq : (i : Int) < (c.inn.length : Nat) := of_decide_eq_true g
    have hlt : i < c.inn.length := by omega
    obtain ⟨x, hx⟩ : ∃ x, c.inn[i]? = some x := ⟨_, List.getElem?_eq_getElem hlt⟩
    have hdrop : c.inn.drop i = x :: c.inn.drop (i + 1) := by
      rw [List.drop_eq_getElem_cons hlt]
      rw [List.getElem?_eq_getElem hlt] at hx
      cases hx; rfl
    rw [hdrop] at hin
    have hlast : 0 ≤ last := by
      rcases Nat.eq_zero_or_pos i with h | h
      · rw [hl0 h]; decide
      · obtain ⟨_, _, _, h⟩ := hl1 h; omega
    conv => whnf
    refine br_case (fun g3 => ?_) (fun g3 => absurd (show (0 : Int) ≤ i ∧ (i : Int) < (c.inn.length : Nat) from ⟨by omega, by omega⟩) (of_decide_eq_false g3))
    conv => whnf
    generalize hq : List.take _ (List.drop _ (List.drop _ _)) = q
    obtain rfl : q = colC x := hq.symm.trans (take_c (f := colC) (z := 3) (fun _ => rfl) hx)
    clear hq
    conv => whnf
    refine br_case (fun g4 => ?_) (fun g4 => ?_) <;> (try rw [g4])
    · have g4q : x.tag < 1 := of_decide_eq_true g4
      conv => whnf
      refine bindP_of (leave1 (id := 2) (q := ⟨[], .nil, true⟩) (by rfl) (by rfl) (by rfl) (by rfl)) ?_
      rw [chkS_in (hin.trans (bad_in (by rw [show tagS x.tag last = false by simp [tagS]; omega]; rfl)))]
      exact ⟨0, .nil, rfl, rfl, .inr ⟨rfl, rfl⟩⟩
    have g4q : ¬ x.tag < 1 := of_decide_eq_false g4
    conv => whnf
    refine br_case (fun g5 => ?_) (fun g5 => ?_) <;> (try rw [g5])
    · have g5q : x.tag > 65535 := of_decide_eq_true g5
      conv => whnf
      refine bindP_of (leave1 (id := 2) (q := ⟨[], .nil, true⟩) (by rfl) (by rfl) (by rfl) (by rfl)) ?_
      rw [chkS_in (hin.trans (bad_in (by rw [show tagS x.tag last = false by simp [tagS]; omega]; rfl)))]
      exact ⟨0, .nil, rfl, rfl, .inr ⟨rfl, rfl⟩⟩
    have g5q : ¬ x.tag > 65535 := of_decide_eq_false g5
    conv => whnf
    refine br_case (fun g6 => ?_) (fun g6 => ?_) <;> (try rw [g6])
    · have g6q : (i : Int) > 0 := of_decide_eq_true g6
      conv => whnf
      obtain ⟨y, hy, hyt, hy1⟩ := hl1 (by omega)
      have hw : (IntKind.i64.wrap ((i : Int) - 1)) = ((i - 1 : Nat) : Int) := by rw [w64 (by omega) (by omega)]; omega
      refine br_case (fun g7 => ?_) (fun g7 => absurd (show (0 : Int) ≤ IntKind.i64.wrap ((i : Int) - 1) ∧ IntKind.i64.wrap ((i : Int) - 1) < (c.inn.length : Nat) by rw [hw]; omega) (of_decide_eq_false g7))
      conv => whnf
      generalize hq : (List.drop _ (List.drop _ _))[0]? = q
      obtain rfl : q = some (vi y.tag) := hq.symm.trans (at_c' (f := colC) (z := 3) (fun _ => rfl) (x := y) (by rw [hw]; exact hy) 1 (by decide))
      clear hq
      conv => whnf
      refine br_case (fun g11 => ?_) (fun g11 => ?_) <;> (try rw [g11])
      · have g11q : x.tag ≤ y.tag := of_decide_eq_true g11
        conv => whnf
        refine bindP_of (leave1 (id := 2) (q := ⟨[], .nil, true⟩) (by rfl) (by rfl) (by rfl) (by rfl)) ?_
        rw [chkS_in (hin.trans (bad_in (by rw [show tagS x.tag last = false by simp [tagS]; omega]; rfl)))]
        exact ⟨0, .nil, rfl, rfl, .inr ⟨rfl, rfl⟩⟩
      have g11q : ¬ x.tag ≤ y.tag := of_decide_eq_false g11
      conv => whnf
      refine br_case (fun g8 => ?_) (fun g8 => ?_) <;> (try rw [g8])
      · have g8q : x.kind < 1 := of_decide_eq_true g8
        conv => whnf
        refine bindP_of (leave1 (id := 2) (q := ⟨[], .nil, true⟩) (by rfl) (by rfl) (by rfl) (by rfl)) ?_
        rw [chkS_in (hin.trans (bad_in (by rw [kindS_eq, decide_eq_false (by omega)]; simp)))]
        exact ⟨0, .nil, rfl, rfl, .inr ⟨rfl, rfl⟩⟩
      have g8q : ¬ x.kind < 1 := of_decide_eq_false g8
      conv => whnf
      refine br_case (fun g9 => ?_) (fun g9 => ?_) <;> (try rw [g9])
      · have g9q : x.kind > 5 := of_decide_eq_true g9
        conv => whnf
        refine bindP_of (leave1 (id := 2) (q := ⟨[], .nil, true⟩) (by rfl) (by rfl) (by rfl) (by rfl)) ?_
        rw [chkS_in (hin.trans (bad_in (by rw [kindS_eq, decide_eq_false (by omega)]; simp)))]
        exact ⟨0, .nil, rfl, rfl, .inr ⟨rfl, rfl⟩⟩
      have g9q : ¬ x.kind > 5 := of_decide_eq_false g9
      conv => whnf
      refine br_case (fun g10 => ?_) (fun g10 => ?_) <;> (try rw [g10])
      · have g10q : (!eB x.name) = true := g10
        conv => whnf
        refine bindP_of (leave1 (id := 2) (q := ⟨[], .nil, true⟩) (by rfl) (by rfl) (by rfl) (by rfl)) ?_
        rw [chkS_in (hin.trans (bad_in (by rw [show eB x.name = false by simpa using g10q]; simp)))]
        exact ⟨0, .nil, rfl, rfl, .inr ⟨rfl, rfl⟩⟩
      have g10q : (!eB x.name) = false := g10
      conv => whnf
      have hall : (tagS x.tag last && kindS x.kind && eB x.name) = true := by
        rw [show tagS x.tag last = true by simp [tagS]; omega, kindS_eq, decide_eq_true (by omega), show eB x.name = true by simpa using g10q]; rfl
      exact ⟨(i + 1, x.tag), ⟨⟨hlt, hin.trans (good_in hall), fun h => absurd h (by simp), fun _ => ⟨x, by simpa using hx, rfl, by simp only; omega⟩⟩, by show c.inn.length - (i + 1) < c.inn.length - i; omega⟩,
        cln_ns [0] (by decide) (fun i hi => absurd hi (Nat.not_lt_zero i)) ⟨⟨_, rfl, rfl, rfl⟩, trivial⟩ ⟨⟨rfl, rfl⟩, ⟨congrArg vi (w64 (n := (i : Int) + 1) (by omega) (by omega)), rfl⟩, trivial⟩⟩
    have g6q : ¬ (i : Int) > 0 := of_decide_eq_false g6
    have hl00 := hl0 (by omega)
    conv => whnf
    refine br_case (fun g8 => ?_) (fun g8 => ?_) <;> (try rw [g8])
    · have g8q : x.kind < 1 := of_decide_eq_true g8
      conv => whnf
      refine bindP_of (leave1 (id := 2) (q := ⟨[], .nil, true⟩) (by rfl) (by rfl) (by rfl) (by rfl)) ?_
      rw [chkS_in (hin.trans (bad_in (by rw [kindS_eq, decide_eq_false (by omega)]; simp)))]
      exact ⟨0, .nil, rfl, rfl, .inr ⟨rfl, rfl⟩⟩
    have g8q : ¬ x.kind < 1 := of_decide_eq_false g8
    conv => whnf
    refine br_case (fun g9 => ?_) (fun g9 => ?_) <;> (try rw [g9])
    · have g9q : x.kind > 5 := of_decide_eq_true g9
      conv => whnf
      refine bindP_of (leave1 (id := 2) (q := ⟨[], .nil, true⟩) (by rfl) (by rfl) (by rfl) (by rfl)) ?_
      rw [chkS_in (hin.trans (bad_in (by rw [kindS_eq, decide_eq_false (by omega)]; simp)))]
      exact ⟨0, .nil, rfl, rfl, .inr ⟨rfl, rfl⟩⟩
    have g9q : ¬ x.kind > 5 := of_decide_eq_false g9
    conv => whnf
    refine br_case (fun g10 => ?_) (fun g10 => ?_) <;> (try rw [g10])
    · have g10q : (!eB x.name) = true := g10
      conv => whnf
      refine bindP_of (leave1 (id := 2) (q := ⟨[], .nil, true⟩) (by rfl) (by rfl) (by rfl) (by rfl)) ?_
      rw [chkS_in (hin.trans (bad_in (by rw [show eB x.name = false by simpa using g10q]; simp)))]
      exact ⟨0, .nil, rfl, rfl, .inr ⟨rfl, rfl⟩⟩
    have g10q : (!eB x.name) = false := g10
    conv => whnf
    have hall : (tagS x.tag last && kindS x.kind && eB x.name) = true := by
      rw [show tagS x.tag last = true by simp [tagS]; omega, kindS_eq, decide_eq_true (by omega), show eB x.name = true by simpa using g10q]; rfl
    exact ⟨(i + 1, x.tag), ⟨⟨hlt, hin.trans (good_in hall), fun h => absurd h (by simp), fun _ => ⟨x, by simpa using hx, rfl, by simp only; omega⟩⟩, by show c.inn.length - (i + 1) < c.inn.length - i; omega⟩,
      cln_ns [0] (by decide) (fun i hi => absurd hi (Nat.not_lt_zero i)) ⟨⟨_, rfl, rfl, rfl⟩, trivial⟩ ⟨⟨rfl, rfl⟩, ⟨congrArg vi (w64 (n := (i : Int) + 1) (by omega) (by omega)), rfl⟩, trivial⟩⟩
  have gq : ¬ (i : Int) < (c.inn.length : Nat) := of_decide_eq_false g
  have hin1 : inS 0 c.inn = true := by
    rw [List.drop_eq_nil_of_le (by omega)] at hin
    exact hin
  have hkin := kindS_of_in c.inn 0 hin1
  clear g gq hin hl0 hl1 hi
  conv => whnf
  refine loop_ind pr0 np0 mo0 (fun a : List Int × RT => ⟨tmps [(1, .ptr 0 0), (7, .sl 1 0 a.1.length 1), (8, vi a.1.length)], [⟨cdC c, .is 26, true⟩, ⟨a.1.map vi, a.2, true⟩]⟩)
    (fun a => c.ops.length - a.1.length) (fun a => a.1.length ≤ c.ops.length ∧ a.1.length ≤ 1048576 ∧ opsS c.inn [] c.ops = opsS c.inn a.1 (c.ops.drop a.1.length)) ?_ ([], .is 3) ⟨Nat.zero_le _, Nat.zero_le _, rfl⟩
    (cln_ns [0, 1] (by decide) (fun i hi => absurd hi (Nat.not_lt_zero i)) ⟨⟨_, rfl, rfl, rfl⟩, ⟨_, rfl, rfl, rfl⟩, trivial⟩ ⟨⟨rfl, rfl⟩, ⟨rfl, rfl⟩, ⟨rfl, rfl⟩, trivial⟩)
  rintro ⟨ks, ty⟩ ⟨hi, hmx, hops⟩
  simp only at hi hmx hops
  have hidn : idsL (ks.map vi) = [] := idsL_none vi (fun _ => rfl) ks
  conv => whnf
  refine br_case (fun g => ?_) (fun g => ?_)
  · have gq : (ks.length : Int) < (c.ops.length : Nat) := of_decide_eq_true g
    have hlt : ks.length < c.ops.length := by omega
    obtain ⟨x, hx⟩ : ∃ x, c.ops[ks.length]? = some x := ⟨_, List.getElem?_eq_getElem hlt⟩
    have hdrop : c.ops.drop ks.length = x :: c.ops.drop (ks.length + 1) := by
      rw [List.drop_eq_getElem_cons hlt]
      rw [List.getElem?_eq_getElem hlt] at hx
      cases hx; rfl
    rw [hdrop] at hops
    obtain ⟨hxs, hxv⟩ := hc x (List.mem_of_getElem? hx)
    have hmk := made_ok c.inn ks x hxs hxv
    conv => whnf
    refine br_case (fun g2 => ?_) (fun g2 => ?_)
    · have g2q : ((ks.length : Nat) : Int) = 1048576 := eq_of_beq (show (((ks.length : Nat) : Int) == 1048576) = true from g2)
      have herr : opsS c.inn [] c.ops = .error ks.length := by rw [hops, opsS, if_pos (by omega)]
      conv => whnf
      refine bindP_of (leave1 (id := 2) (q := ⟨[], .nil, true⟩) (by rfl) (by rfl) (by rfl) (by rfl)) ?_
      rw [chkS_ops hin1 herr, g2q]
      exact ⟨0, .nil, rfl, rfl, .inr ⟨rfl, rfl⟩⟩
    have g2q : ((ks.length : Nat) : Int) ≠ 1048576 := by simpa using (show (((ks.length : Nat) : Int) == 1048576) = false from g2)
    conv => whnf
    refine br_case (fun g3 => ?_) (fun g3 => absurd (show (0 : Int) ≤ (ks.length : Nat) ∧ ((ks.length : Nat) : Int) < (c.ops.length : Nat) from ⟨by omega, by omega⟩) (of_decide_eq_false g3))
    conv => whnf
    generalize hq : List.take _ (List.drop _ (List.drop _ _)) = q
    obtain rfl : q = insC x := hq.symm.trans (take_c (f := insC) (z := 7) (fun _ => rfl) hx)
    clear hq
    conv => whnf
    refine callK0 (us := [1]) (args' := [.agg (insC x), .ext (colsC c.inn) c.inn.length, .ext (ks.map vi) ks.length]) (by kernel_rfl) rfl (reach1 (r := ⟨ks.map vi, ty, true⟩) rfl hidn)
      (mapO_cons (by rfl) (mapO_cons (by rfl) (mapO_cons (passV_sl (r := ⟨ks.map vi, ty, true⟩) rfl rfl (getCells_all _ _ (by rw [Nat.mul_one, List.length_map])) (plainL_map vi (fun _ => rfl) ks)) rfl))) hmk rfl ?_
    conv => whnf
    refine br_case (fun g4 => ?_) (fun g4 => ?_)
    · have g4q : (mkS c.inn ks x).getD 0 = 0 := eq_of_beq (show ((mkS c.inn ks x).getD 0 == 0) = true from g4)
      have hno : mkS c.inn ks x = none := by
        cases hm : mkS c.inn ks x with
        | none => rfl
        | some k =>
          have := mkS_kind hkin hm
          rw [hm] at g4q
          rw [kindS_eq] at this
          have := of_decide_eq_true this
          simp at g4q
          omega
      have herr : opsS c.inn [] c.ops = .error ks.length := by rw [hops, opsS, if_neg (by omega), hno]
      conv => whnf
      refine bindP_of (leave1 (id := 2) (q := ⟨[], .nil, true⟩) (by rfl) (by rfl) (by rfl) (by rfl)) ?_
      rw [chkS_ops hin1 herr]
      exact ⟨0, .nil, rfl, rfl, .inr ⟨rfl, rfl⟩⟩
    have g4q : ((mkS c.inn ks x).getD 0 == 0) = false := g4
    obtain ⟨k, hyes⟩ : ∃ k, mkS c.inn ks x = some k := by
      cases hm : mkS c.inn ks x with
      | none => rw [hm] at g4q; simp at g4q
      | some k => exact ⟨k, rfl⟩
    have hstep : opsS c.inn [] c.ops = opsS c.inn (ks ++ [k]) (c.ops.drop (ks.length + 1)) := by rw [hops, opsS, if_neg (by omega), hyes]
    conv => whnf
    refine br_case (fun g6 => ?_) (fun g6 => absurd (show true = true ∧ (ty = .nil ∨ 1 = 1) ∧ 0 + ks.length * 1 ≤ (ks.map vi).length ∧ (ks.length + 1) * 8 ≤ 140737488355328 from ⟨rfl, .inr rfl, by simp, by omega⟩) (of_decide_eq_false g6))
    conv => whnf
    refine br_case (fun g7 => absurd (show 0 + (ks.length + 1) * 1 ≤ (ks.map vi).length from of_decide_eq_true g7) (by simp)) (fun g7 => ?_)
    conv => whnf
    rw [hyes]
    refine ⟨(ks ++ [k], ty.grow 3), ⟨⟨by simp; omega, by simp; omega, ?_⟩, by simp only [List.length_append, List.length_cons, List.length_nil]; omega⟩,
      cln_ns [0, 3] (by decide) (fun i hi => absurd hi (Nat.not_lt_zero i)) ⟨⟨_, rfl, rfl, rfl⟩, ⟨⟨List.take (ks.length * 1) (List.drop 0 (ks.map vi)) ++ [vi k], ty.grow 3, true⟩, rfl, ?_, ?_⟩, trivial⟩ ⟨⟨rfl, rfl⟩, ⟨?_, rfl⟩, ⟨?_, rfl⟩, trivial⟩⟩
    · simpa using hstep
    · simp
      exact List.take_of_length_le (by simp)
    · simp only [Nat.mul_one, List.drop_zero]
      rw [show List.take ks.length (ks.map vi) = ks.map vi from List.take_of_length_le (by simp), idsL_append, hidn]; rfl
    · show AV.sl 1 0 (ks.length + 1) 1 = _
      simp
    · exact (congrArg vi (w64 (n := (ks.length : Int) + 1) (by omega) (by omega))).trans (by simp)
  have gq : ¬ (ks.length : Int) < (c.ops.length : Nat) := of_decide_eq_false g
  have hks : opsS c.inn [] c.ops = .ok ks := by
    rw [List.drop_eq_nil_of_le (by omega)] at hops
    exact hops
  clear g hops
  conv => whnf
  refine loop_ind pr0 np0 mo0 (fun a : Nat × Int => ⟨tmps [(1, .ptr 0 0), (7, .sl 1 0 ks.length 1), (10, vi a.1)], [⟨cdC c, .is 26, true⟩, ⟨ks.map vi, ty, true⟩]⟩)
    (fun a => c.out.length - a.1) (fun a => a.1 ≤ c.out.length ∧ outS c.ops.length 0 0 c.out = outS c.ops.length a.2 a.1 (c.out.drop a.1) ∧ (a.1 = 0 → a.2 = 0) ∧ (0 < a.1 → ∃ y, c.out[a.1 - 1]? = some y ∧ y.tag = a.2 ∧ 1 ≤ a.2)) ?_ (0, 0) ⟨Nat.zero_le _, rfl, fun _ => rfl, fun h => absurd h (by decide)⟩
    (cln_ns [0, 1] (by decide) (fun i hi => absurd hi (Nat.not_lt_zero i)) ⟨⟨_, rfl, rfl, rfl⟩, ⟨_, rfl, rfl, hidn⟩, trivial⟩ ⟨⟨rfl, rfl⟩, ⟨rfl, rfl⟩, ⟨rfl, rfl⟩, trivial⟩)
  rintro ⟨j, last⟩ ⟨hj, hout, hl0, hl1⟩
  simp only at hj hout hl0 hl1
  conv => whnf
  refine br_case (fun g => ?_) (fun g => ?_)
  · have gq : (j : Int) < (c.out.length : Nat) := of_decide_eq_true g
    have hlt : j < c.out.length := by omega
    obtain ⟨x, hx⟩ : ∃ x, c.out[j]? = some x := ⟨_, List.getElem?_eq_getElem hlt⟩
    have hdrop : c.out.drop j = x :: c.out.drop (j + 1) := by
      rw [List.drop_eq_getElem_cons hlt]
      rw [List.getElem?_eq_getElem hlt] at hx
      cases hx; rfl
    rw [hdrop, outS] at hout
    have hw : IntKind.i64.wrap ((c.ops.length : Int) + (j : Int)) = (c.ops.length : Int) + j := w64 (by omega) (by omega)
    have hlast : 0 ≤ last := by
      rcases Nat.eq_zero_or_pos j with h | h
      · rw [hl0 h]; decide
      · obtain ⟨_, _, _, h⟩ := hl1 h; omega
    conv => whnf
    refine br_case (fun g3 => ?_) (fun g3 => absurd (show (0 : Int) ≤ j ∧ (j : Int) < (c.out.length : Nat) from ⟨by omega, by omega⟩) (of_decide_eq_false g3))
    conv => whnf
    generalize hq : List.take _ (List.drop _ (List.drop _ _)) = q
    obtain rfl : q = otC x := hq.symm.trans (take_c (f := otC) (z := 2) (fun _ => rfl) hx)
    clear hq
    conv => whnf
    refine br_case (fun g4 => ?_) (fun g4 => ?_) <;> (try rw [g4])
    · have g4q : x.tag < 1 := of_decide_eq_true g4
      conv => whnf
      refine bindP_of (leave1 (id := 3) (q := ⟨[], .nil, true⟩) (by rfl) (by rfl) (by rfl) (by rfl)) ?_
      rw [chkS_out hin1 hks (j := j) (by rw [hout, if_neg (by simp [tagS]; omega)])]
      refine ⟨0, .nil, ?_, rfl, .inr ⟨rfl, rfl⟩⟩
      show AV.tup [.sl 0 0 0 0, vi (IntKind.i64.wrap ((c.ops.length : Int) + (j : Int))), vi 150] = _
      rw [hw]; rfl
    have g4q : ¬ x.tag < 1 := of_decide_eq_false g4
    conv => whnf
    refine br_case (fun g5 => ?_) (fun g5 => ?_) <;> (try rw [g5])
    · have g5q : x.tag > 65535 := of_decide_eq_true g5
      conv => whnf
      refine bindP_of (leave1 (id := 3) (q := ⟨[], .nil, true⟩) (by rfl) (by rfl) (by rfl) (by rfl)) ?_
      rw [chkS_out hin1 hks (j := j) (by rw [hout, if_neg (by simp [tagS]; omega)])]
      refine ⟨0, .nil, ?_, rfl, .inr ⟨rfl, rfl⟩⟩
      show AV.tup [.sl 0 0 0 0, vi (IntKind.i64.wrap ((c.ops.length : Int) + (j : Int))), vi 150] = _
      rw [hw]; rfl
    have g5q : ¬ x.tag > 65535 := of_decide_eq_false g5
    conv => whnf
    refine br_case (fun g6 => ?_) (fun g6 => ?_) <;> (try rw [g6])
    · have g6q : (j : Int) > 0 := of_decide_eq_true g6
      conv => whnf
      obtain ⟨y, hy, hyt, hy1⟩ := hl1 (by omega)
      have hw1 : (IntKind.i64.wrap ((j : Int) - 1)) = ((j - 1 : Nat) : Int) := by rw [w64 (by omega) (by omega)]; omega
      refine br_case (fun g7 => ?_) (fun g7 => absurd (show (0 : Int) ≤ IntKind.i64.wrap ((j : Int) - 1) ∧ IntKind.i64.wrap ((j : Int) - 1) < (c.out.length : Nat) by rw [hw1]; omega) (of_decide_eq_false g7))
      conv => whnf
      generalize hq : (List.drop _ (List.drop _ _))[0]? = q
      obtain rfl : q = some (vi y.tag) := hq.symm.trans (at_c' (f := otC) (z := 2) (fun _ => rfl) (x := y) (by rw [hw1]; exact hy) 0 (by decide))
      clear hq
      conv => whnf
      refine br_case (fun g11 => ?_) (fun g11 => ?_) <;> (try rw [g11])
      · have g11q : x.tag ≤ y.tag := of_decide_eq_true g11
        conv => whnf
        refine bindP_of (leave1 (id := 3) (q := ⟨[], .nil, true⟩) (by rfl) (by rfl) (by rfl) (by rfl)) ?_
        rw [chkS_out hin1 hks (j := j) (by rw [hout, if_neg (by simp [tagS]; omega)])]
        refine ⟨0, .nil, ?_, rfl, .inr ⟨rfl, rfl⟩⟩
        show AV.tup [.sl 0 0 0 0, vi (IntKind.i64.wrap ((c.ops.length : Int) + (j : Int))), vi 150] = _
        rw [hw]; rfl
      have g11q : ¬ x.tag ≤ y.tag := of_decide_eq_false g11
      conv => whnf
      refine br_case (fun g8 => ?_) (fun g8 => ?_) <;> (try rw [g8])
      · have g8q : x.place < 0 := of_decide_eq_true g8
        conv => whnf
        refine bindP_of (leave1 (id := 3) (q := ⟨[], .nil, true⟩) (by rfl) (by rfl) (by rfl) (by rfl)) ?_
        rw [chkS_out hin1 hks (j := j) (by rw [hout, if_neg (by simp [tagS]; omega)])]
        refine ⟨0, .nil, ?_, rfl, .inr ⟨rfl, rfl⟩⟩
        show AV.tup [.sl 0 0 0 0, vi (IntKind.i64.wrap ((c.ops.length : Int) + (j : Int))), vi 150] = _
        rw [hw]; rfl
      have g8q : ¬ x.place < 0 := of_decide_eq_false g8
      conv => whnf
      refine br_case (fun g9 => ?_) (fun g9 => ?_) <;> (try rw [g9])
      · have g9q : x.place ≥ (c.ops.length : Nat) := of_decide_eq_true g9
        conv => whnf
        refine bindP_of (leave1 (id := 3) (q := ⟨[], .nil, true⟩) (by rfl) (by rfl) (by rfl) (by rfl)) ?_
        rw [chkS_out hin1 hks (j := j) (by rw [hout, if_neg (by simp [tagS]; omega)])]
        refine ⟨0, .nil, ?_, rfl, .inr ⟨rfl, rfl⟩⟩
        show AV.tup [.sl 0 0 0 0, vi (IntKind.i64.wrap ((c.ops.length : Int) + (j : Int))), vi 150] = _
        rw [hw]; rfl
      have g9q : ¬ x.place ≥ (c.ops.length : Nat) := of_decide_eq_false g9
      conv => whnf
      rw [if_pos (by simp [tagS]; omega)] at hout
      exact ⟨(j + 1, x.tag), ⟨⟨hlt, hout, fun h => absurd h (by simp), fun _ => ⟨x, by simpa using hx, rfl, by simp only; omega⟩⟩, by show c.out.length - (j + 1) < c.out.length - j; omega⟩,
        cln_ns [0, 1] (by decide) (fun i hi => absurd hi (Nat.not_lt_zero i)) ⟨⟨_, rfl, rfl, rfl⟩, ⟨_, rfl, rfl, hidn⟩, trivial⟩ ⟨⟨rfl, rfl⟩, ⟨rfl, rfl⟩, ⟨congrArg vi (w64 (n := (j : Int) + 1) (by omega) (by omega)), rfl⟩, trivial⟩⟩
    have g6q : ¬ (j : Int) > 0 := of_decide_eq_false g6
    have hl00 := hl0 (by omega)
    conv => whnf
    refine br_case (fun g8 => ?_) (fun g8 => ?_) <;> (try rw [g8])
    · have g8q : x.place < 0 := of_decide_eq_true g8
      conv => whnf
      refine bindP_of (leave1 (id := 3) (q := ⟨[], .nil, true⟩) (by rfl) (by rfl) (by rfl) (by rfl)) ?_
      rw [chkS_out hin1 hks (j := j) (by rw [hout, if_neg (by simp [tagS]; omega)])]
      refine ⟨0, .nil, ?_, rfl, .inr ⟨rfl, rfl⟩⟩
      show AV.tup [.sl 0 0 0 0, vi (IntKind.i64.wrap ((c.ops.length : Int) + (j : Int))), vi 150] = _
      rw [hw]; rfl
    have g8q : ¬ x.place < 0 := of_decide_eq_false g8
    conv => whnf
    refine br_case (fun g9 => ?_) (fun g9 => ?_) <;> (try rw [g9])
    · have g9q : x.place ≥ (c.ops.length : Nat) := of_decide_eq_true g9
      conv => whnf
      refine bindP_of (leave1 (id := 3) (q := ⟨[], .nil, true⟩) (by rfl) (by rfl) (by rfl) (by rfl)) ?_
      rw [chkS_out hin1 hks (j := j) (by rw [hout, if_neg (by simp [tagS]; omega)])]
      refine ⟨0, .nil, ?_, rfl, .inr ⟨rfl, rfl⟩⟩
      show AV.tup [.sl 0 0 0 0, vi (IntKind.i64.wrap ((c.ops.length : Int) + (j : Int))), vi 150] = _
      rw [hw]; rfl
    have g9q : ¬ x.place ≥ (c.ops.length : Nat) := of_decide_eq_false g9
    conv => whnf
    rw [if_pos (by simp [tagS]; omega)] at hout
    exact ⟨(j + 1, x.tag), ⟨⟨hlt, hout, fun h => absurd h (by simp), fun _ => ⟨x, by simpa using hx, rfl, by simp only; omega⟩⟩, by show c.out.length - (j + 1) < c.out.length - j; omega⟩,
      cln_ns [0, 1] (by decide) (fun i hi => absurd hi (Nat.not_lt_zero i)) ⟨⟨_, rfl, rfl, rfl⟩, ⟨_, rfl, rfl, hidn⟩, trivial⟩ ⟨⟨rfl, rfl⟩, ⟨rfl, rfl⟩, ⟨congrArg vi (w64 (n := (j : Int) + 1) (by omega) (by omega)), rfl⟩, trivial⟩⟩
  · have gq : ¬ (j : Int) < (c.out.length : Nat) := of_decide_eq_false g
    have hno : outS c.ops.length 0 0 c.out = none := by
      rw [List.drop_eq_nil_of_le (by omega)] at hout
      exact hout
    conv => whnf
    refine bindP_of (leave1 (id := 1) (q := ⟨ks.map vi, ty, true⟩) (by rfl) (by rfl) hidn (by rfl)) ?_
    rw [chkS_ok hin1 hks hno]
    exact ⟨1, ty, rfl, rfl, .inl rfl⟩

/-- ref15.Check's contract. -/
theorem rcheck_ok (c : Cd) (hc : ∀ o ∈ c.ops, o.sep.size < 4611686018427387904 ∧ o.val.s.size < 4611686018427387904) (h1 : c.inn.length < 4611686018427387904) (h2 : c.ops.length < 4611686018427387904) (h3 : c.out.length < 4611686018427387904) :
    ∃ z ty, FnOk E0 24 [.agg (cdC c)] [] (.tup [.sl 0 0 (chkS c).1.length z, vi (chkS c).2.1, vi (chkS c).2.2]) [⟨(chkS c).1.map vi, ty, true⟩] ∧ ksR (chkS c).1 z ty := by
  obtain ⟨r, out, h, z, ty, rfl, rfl, hz⟩ := fnK_ok pr0 np0 mo0 (rcheck_walk c hc h1 h2 h3)
  exact ⟨z, ty, h, hz⟩
end Go.AI
