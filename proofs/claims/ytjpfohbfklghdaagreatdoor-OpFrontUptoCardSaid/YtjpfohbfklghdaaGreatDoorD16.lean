/-
  op.Check: the kinds of a code's values, or the first fault. Conditions: those that each theorem lists (lengths far below the greatest).
-/
import Derived.Test.YtjpfohbfklghdaaGreatDoorD15
import Derived.Test.YtjpfohbfklghdaaGreatDoorC6
set_option linter.all false
set_option linter.unusedVariables false
set_option maxRecDepth 100000
namespace Go.AI
open Go.Proofs
attribute [local irreducible] callK leave validU validS fromS toS atS bareS mkS kindS

theorem take_c {α : Type} {f : α → List AV} {z : Nat} (hz : ∀ a, (f a).length = z) {l : List α} {i : Nat} {x : α} (h : l[i]? = some x) : List.take z (List.drop 0 (List.drop (Int.toNat (i : Int) * z) (l.flatMap f))) = f x := by
  obtain ⟨rest, hr⟩ := getD_cells f z hz l i x h
  rw [show Int.toNat (i : Int) = i from rfl, hr, List.drop_zero, ← hz x, List.take_left]

/-- A list of kinds as the machine has it: where there is none, its cells' size is unknown. -/
def ksR (ks : List Int) (z : Nat) (ty : RT) : Prop := z = 1 ∨ (ks.length = 0 ∧ ty = .nil)

/-- What Check answers. -/
def chkR (p : List Int × Int × Int) (r : AV) (out : List Row) : Prop := ∃ z ty, r = .tup [.sl 0 0 p.1.length z, vi p.2.1, vi p.2.2] ∧ out = [⟨p.1.map vi, ty, true⟩] ∧ ksR p.1 z ty

theorem kindS_eq (k : Int) : kindS k = decide (1 ≤ k ∧ k ≤ 5) := by
  unfold kindS
  rw [Bool.eq_iff_iff]
  simp
theorem chkS_ops {c : Cd} {i : Nat} (hin : inS 0 c.inn = true) (h : opsS c.inn [] c.ops = .error i) : chkS c = ([], (i : Int), 150) := by rw [chkS, if_neg (by rw [hin]; decide), h]
theorem chkS_out {c : Cd} {j : Nat} {ks : List Int} (hin : inS 0 c.inn = true) (h : opsS c.inn [] c.ops = .ok ks) (h2 : outS c.ops.length 0 0 c.out = some j) : chkS c = ([], (c.ops.length : Int) + j, 150) := by rw [chkS, if_neg (by rw [hin]; decide), h]; simp only [h2]
theorem chkS_ok {c : Cd} {ks : List Int} (hin : inS 0 c.inn = true) (h : opsS c.inn [] c.ops = .ok ks) (h2 : outS c.ops.length 0 0 c.out = none) : chkS c = (ks, 0, 0) := by rw [chkS, if_neg (by rw [hin]; decide), h]; simp only [h2]
theorem chkS_in {c : Cd} (h : inS 0 c.inn = false) : chkS c = ([], -1, 150) := by rw [chkS, if_pos h]

/-- op.Check -/
theorem check_walk (c : Cd) (hc : ∀ o ∈ c.ops, o.sep.size < 4611686018427387904 ∧ o.val.s.size < 4611686018427387904) (h1 : c.inn.length < 4611686018427387904) (h2 : c.ops.length < 4611686018427387904) (h3 : c.out.length < 4611686018427387904) :
    fnK E0 22 [.agg (cdC c)] [] (chkR (chkS c)) := by
  conv => whnf
  refine loop_ind pr0 np0 mo0 (fun a : Nat × Int => ⟨tmps [(1, .ptr 0 0), (5, vi a.2), (16, .ext (colsC c.inn) c.inn.length), (17, vi c.inn.length), (18, vi a.1)], [⟨cdC c, .is 26, true⟩]⟩) (fun a => c.inn.length - a.1) (fun a => a.1 ≤ c.inn.length ∧ inS 0 c.inn = inS a.2 (c.inn.drop a.1)) ?_ (0, 0) ⟨Nat.zero_le _, rfl⟩
    (cln_ns [0] (by decide) (fun i hi => absurd hi (Nat.not_lt_zero i)) ⟨⟨_, rfl, rfl, rfl⟩, trivial⟩ ⟨⟨rfl, rfl⟩, ⟨rfl, rfl⟩, ⟨rfl, rfl⟩, ⟨rfl, rfl⟩, ⟨rfl, rfl⟩, trivial⟩)
  rintro ⟨i, last⟩ ⟨hi, hin⟩
  conv => whnf
  refine br_case (fun g => ?_) (fun g => ?_)
  · have gq : (i : Int) < (c.inn.length : Nat) := of_decide_eq_true g
    have hlt : i < c.inn.length := by omega
    obtain ⟨x, hx⟩ : ∃ x, c.inn[i]? = some x := ⟨_, List.getElem?_eq_getElem hlt⟩
    have hdrop : c.inn.drop i = x :: c.inn.drop (i + 1) := by
      rw [List.drop_eq_getElem_cons hlt]
      rw [List.getElem?_eq_getElem hlt] at hx
      cases hx; rfl
    rw [hdrop] at hin
    obtain ⟨nm, hnm, hnm'⟩ := kindName_ok x.kind
    conv => whnf
    refine br_case (fun g3 => ?_) (fun g3 => absurd (show (0 : Int) ≤ i ∧ (i : Int) < (c.inn.length : Nat) from ⟨by omega, by omega⟩) (of_decide_eq_false g3))
    conv => whnf
    generalize hq : List.take _ (List.drop _ (List.drop _ _)) = q
    obtain rfl : q = colC x := hq.symm.trans (take_c (f := colC) (z := 3) (fun _ => rfl) hx)
    clear hq
    conv => whnf
    refine callK0 (by kernel_rfl) rfl rfl (by rfl) (tag_ok x.tag last) rfl ?_
    conv => whnf
    refine br_case (fun g4 => ?_) (fun g4 => ?_) <;> (try rw [g4])
    · have g4q : (!tagS x.tag last) = true := g4
      conv => whnf
      refine bindP_of (leave1 (id := 2) (q := ⟨[], .nil, true⟩) (by rfl) (by rfl) (by rfl) (by rfl)) ?_
      rw [chkS_in (by rw [hin]; show (tagS x.tag last && kindS x.kind && eB x.name && inS x.tag (c.inn.drop (i + 1))) = false; simp only [Bool.not_eq_true'] at g4q; rw [g4q]; rfl)]
      exact ⟨0, .nil, rfl, rfl, .inr ⟨rfl, rfl⟩⟩
    have g4q : (!tagS x.tag last) = false := g4
    conv => whnf
    refine callK0 (by kernel_rfl) rfl rfl (by rfl) hnm rfl ?_
    conv => whnf
    refine br_case (fun g5 => ?_) (fun g5 => ?_) <;> (try rw [g5])
    · have g5q : (nm.data.toList == []) = true := g5
      have hk : kindS x.kind = false := by
        have := hnm'.1 (by simpa using g5q)
        rw [kindS_eq]; exact decide_eq_false this
      conv => whnf
      refine bindP_of (leave1 (id := 2) (q := ⟨[], .nil, true⟩) (by rfl) (by rfl) (by rfl) (by rfl)) ?_
      rw [chkS_in (by rw [hin]; show (tagS x.tag last && kindS x.kind && eB x.name && inS x.tag (c.inn.drop (i + 1))) = false; rw [hk]; simp)]
      exact ⟨0, .nil, rfl, rfl, .inr ⟨rfl, rfl⟩⟩
    have hk : kindS x.kind = true := by
      have g5q : (nm.data.toList == []) = false := g5
      rw [kindS_eq]
      refine decide_eq_true ?_
      by_cases hh : 1 ≤ x.kind ∧ x.kind ≤ 5
      · exact hh
      · rw [hnm'.2 hh] at g5q; simp at g5q
    conv => whnf
    refine br_case (fun g6 => ?_) (fun g6 => ?_) <;> (try rw [g6])
    · have g6q : (!eB x.name) = true := g6
      conv => whnf
      refine bindP_of (leave1 (id := 2) (q := ⟨[], .nil, true⟩) (by rfl) (by rfl) (by rfl) (by rfl)) ?_
      rw [chkS_in (by rw [hin]; show (tagS x.tag last && kindS x.kind && eB x.name && inS x.tag (c.inn.drop (i + 1))) = false; simp only [Bool.not_eq_true'] at g6q; rw [g6q]; simp)]
      exact ⟨0, .nil, rfl, rfl, .inr ⟨rfl, rfl⟩⟩
    have g6q : (!eB x.name) = false := g6
    conv => whnf
    refine ⟨(i + 1, x.tag), ⟨⟨hlt, hin.trans ?_⟩, by show c.inn.length - (i + 1) < c.inn.length - i; omega⟩, cln_ns [0] (by decide) (fun i hi => absurd hi (Nat.not_lt_zero i)) ⟨⟨_, rfl, rfl, rfl⟩, trivial⟩ ⟨⟨rfl, rfl⟩, ⟨rfl, rfl⟩, ⟨rfl, rfl⟩, ⟨rfl, rfl⟩, ⟨congrArg vi (w64 (n := (i : Int) + 1) (by omega) (by omega)), rfl⟩, trivial⟩⟩
    show (tagS x.tag last && kindS x.kind && eB x.name && inS x.tag (c.inn.drop (i + 1))) = _
    simp only [Bool.not_eq_false'] at g4q g6q
    rw [g4q, hk, g6q]; rfl
  have gq : ¬ (i : Int) < (c.inn.length : Nat) := of_decide_eq_false g
  have hin : inS 0 c.inn = true := by
    rw [List.drop_eq_nil_of_le (by omega)] at hin
    exact hin
  have hin1 := hin
  clear g
  conv => whnf
  refine loop_ind pr0 np0 mo0 (fun a : List Int × Nat × RT => ⟨tmps [(1, .ptr 0 0), (8, .sl 1 0 a.1.length a.2.1), (42, .ext (inssC c.ops) c.ops.length), (43, vi c.ops.length), (44, vi a.1.length)], [⟨cdC c, .is 26, true⟩, ⟨a.1.map vi, a.2.2, true⟩]⟩)
    (fun a => c.ops.length - a.1.length) (fun a => a.1.length ≤ c.ops.length ∧ ksR a.1 a.2.1 a.2.2 ∧ opsS c.inn [] c.ops = opsS c.inn a.1 (c.ops.drop a.1.length)) ?_ ([], 0, .nil) ⟨Nat.zero_le _, .inr ⟨rfl, rfl⟩, rfl⟩
    (cln_ns [0, 1] (by decide) (fun i hi => absurd hi (Nat.not_lt_zero i)) ⟨⟨_, rfl, rfl, rfl⟩, ⟨_, rfl, rfl, rfl⟩, trivial⟩ ⟨⟨rfl, rfl⟩, ⟨rfl, rfl⟩, ⟨rfl, rfl⟩, ⟨rfl, rfl⟩, ⟨rfl, rfl⟩, trivial⟩)
  clear hi hin
  rintro ⟨ks, z, ty⟩ ⟨hi, hz, hops⟩
  simp only at hi hz hops
  have hidn : idsL (ks.map vi) = [] := idsL_none vi (fun _ => rfl) ks
  have hlz : ks.length * z = ks.length := by
    rcases hz with rfl | ⟨h0, _⟩
    · exact Nat.mul_one _
    · rw [h0, Nat.zero_mul]
  conv => whnf
  refine br_case (fun g => ?_) (fun g => ?_)
  · have gq : (ks.length : Int) < (c.ops.length : Nat) := of_decide_eq_true g
    have hlt : ks.length < c.ops.length := by omega
    obtain ⟨x, hx⟩ : ∃ x, c.ops[ks.length]? = some x := ⟨_, List.getElem?_eq_getElem hlt⟩
    have hdrop : c.ops.drop ks.length = x :: c.ops.drop (ks.length + 1) := by
      rw [List.drop_eq_getElem_cons hlt]
      rw [List.getElem?_eq_getElem hlt] at hx
      cases hx; rfl
    rw [hdrop] at hops
    obtain ⟨hxs, hxv⟩ := hc x (List.mem_of_getElem? hx)
    obtain ⟨k, ok, hk, hk2⟩ := kindOf_ok c.inn ks x hxs hxv
    conv => whnf
    refine br_case (fun g3 => ?_) (fun g3 => absurd (show (0 : Int) ≤ (ks.length : Nat) ∧ ((ks.length : Nat) : Int) < (c.ops.length : Nat) from ⟨by omega, by omega⟩) (of_decide_eq_false g3))
    conv => whnf
    generalize hq : List.take _ (List.drop _ (List.drop _ _)) = q
    obtain rfl : q = insC x := hq.symm.trans (take_c (f := insC) (z := 7) (fun _ => rfl) hx)
    clear hq
    conv => whnf
    refine callK0 (us := [1]) (args' := [.ext (colsC c.inn) c.inn.length, .ext (ks.map vi) ks.length, .agg (insC x)]) (by kernel_rfl) rfl (reach1 (r := ⟨ks.map vi, ty, true⟩) rfl hidn)
      (mapO_cons (by rfl) (mapO_cons (passV_sl (r := ⟨ks.map vi, ty, true⟩) rfl rfl (getCells_all _ _ (by rw [hlz, List.length_map])) (plainL_map vi (fun _ => rfl) ks)) (mapO_cons (by rfl) rfl))) hk rfl ?_
    conv => whnf
    refine br_case (fun g4 => ?_) (fun g4 => ?_) <;> (try rw [g4])
    · have hok : ok = false := by simpa using (show (!ok) = true from g4)
      have hno : mkS c.inn ks x = none := by
        rcases hk2 with h | h
        · rw [h.1] at hok; cases hok
        · exact h.2
      have herr : opsS c.inn [] c.ops = .error ks.length := by
        rw [hops, opsS]
        split
        · rfl
        · rw [hno]
      conv => whnf
      refine bindP_of (leave1 (id := 3) (q := ⟨[], .nil, true⟩) (by rfl) (by rfl) (by rfl) (by rfl)) ?_
      rw [chkS_ops hin1 herr]
      exact ⟨0, .nil, rfl, rfl, .inr ⟨rfl, rfl⟩⟩
    have hok : ok = true := by simpa using (show (!ok) = false from g4)
    have hyes : mkS c.inn ks x = some k := by
      rcases hk2 with h | h
      · exact h.2
      · rw [h.1] at hok; cases hok
    conv => whnf
    refine br_case (fun g5 => ?_) (fun g5 => ?_) <;> (try rw [g5])
    · have g5q : ((ks.length : Nat) : Int) ≥ 1048576 := of_decide_eq_true g5
      have herr : opsS c.inn [] c.ops = .error ks.length := by rw [hops, opsS, if_pos (by omega)]
      conv => whnf
      refine bindP_of (leave1 (id := 3) (q := ⟨[], .nil, true⟩) (by rfl) (by rfl) (by rfl) (by rfl)) ?_
      rw [chkS_ops hin1 herr]
      exact ⟨0, .nil, rfl, rfl, .inr ⟨rfl, rfl⟩⟩
    have g5q : ¬ ((ks.length : Nat) : Int) ≥ 1048576 := of_decide_eq_false g5
    have hstep : opsS c.inn [] c.ops = opsS c.inn (ks ++ [k]) (c.ops.drop (ks.length + 1)) := by rw [hops, opsS, if_neg (by omega), hyes]
    conv => whnf
    have hzz : ty = .nil ∨ z = 1 := by
      rcases hz with h | h
      · exact .inr h
      · exact .inl h.2
    refine br_case (fun g6 => ?_) (fun g6 => absurd (show true = true ∧ (ty = .nil ∨ z = 1) ∧ 0 + ks.length * 1 ≤ (ks.map vi).length ∧ (ks.length + 1) * 8 ≤ 140737488355328 from ⟨rfl, hzz, by simp, by omega⟩) (of_decide_eq_false g6))
    conv => whnf
    refine br_case (fun g7 => absurd (show 0 + (ks.length + 1) * 1 ≤ (ks.map vi).length from of_decide_eq_true g7) (by simp)) (fun g7 => ?_)
    conv => whnf
    refine ⟨(ks ++ [k], 1, ty.grow 3), ⟨⟨by simp; omega, .inl rfl, ?_⟩, by simp only [List.length_append, List.length_cons, List.length_nil]; omega⟩,
      cln_ns [0, 4] (by decide) (fun i hi => absurd hi (Nat.not_lt_zero i)) ⟨⟨_, rfl, rfl, rfl⟩, ⟨⟨List.take (ks.length * 1) (List.drop 0 (ks.map vi)) ++ [vi k], ty.grow 3, true⟩, rfl, ?_, ?_⟩, trivial⟩ ⟨⟨rfl, rfl⟩, ⟨?_, rfl⟩, ⟨rfl, rfl⟩, ⟨rfl, rfl⟩, ⟨?_, rfl⟩, trivial⟩⟩
    · simpa using hstep
    · simp
      exact List.take_of_length_le (by simp)
    · simp only [Nat.mul_one, List.drop_zero]
      rw [show List.take ks.length (ks.map vi) = ks.map vi from List.take_of_length_le (by simp), idsL_append, hidn]; rfl
    · show AV.sl 1 0 (ks.length + 1) 1 = _
      simp
    · exact (congrArg vi (w64 (n := (ks.length : Int) + 1) (by omega) (by omega))).trans (by simp)
  have gq : ¬ (ks.length : Int) < (c.ops.length : Nat) := of_decide_eq_false g
  have hks : opsS c.inn [] c.ops = .ok ks := by
    rw [List.drop_eq_nil_of_le (by omega)] at hops
    exact hops
  clear g hops
  conv => whnf
  refine loop_ind pr0 np0 mo0 (fun a : Nat × Int => ⟨tmps [(1, .ptr 0 0), (5, vi a.2), (8, .sl 1 0 ks.length z), (70, .ext (otsC c.out) c.out.length), (71, vi c.out.length), (72, vi a.1)], [⟨cdC c, .is 26, true⟩, ⟨ks.map vi, ty, true⟩]⟩)
    (fun a => c.out.length - a.1) (fun a => a.1 ≤ c.out.length ∧ outS c.ops.length 0 0 c.out = outS c.ops.length a.2 a.1 (c.out.drop a.1)) ?_ (0, 0) ⟨Nat.zero_le _, rfl⟩
    (cln_ns [0, 1] (by decide) (fun i hi => absurd hi (Nat.not_lt_zero i)) ⟨⟨_, rfl, rfl, rfl⟩, ⟨_, rfl, rfl, hidn⟩, trivial⟩ ⟨⟨rfl, rfl⟩, ⟨rfl, rfl⟩, ⟨rfl, rfl⟩, ⟨rfl, rfl⟩, ⟨rfl, rfl⟩, ⟨rfl, rfl⟩, trivial⟩)
  rintro ⟨j, last⟩ ⟨hj, hout⟩
  simp only at hj hout
  conv => whnf
  refine br_case (fun g => ?_) (fun g => ?_)
  · have gq : (j : Int) < (c.out.length : Nat) := of_decide_eq_true g
    have hlt : j < c.out.length := by omega
    obtain ⟨x, hx⟩ : ∃ x, c.out[j]? = some x := ⟨_, List.getElem?_eq_getElem hlt⟩
    have hdrop : c.out.drop j = x :: c.out.drop (j + 1) := by
      rw [List.drop_eq_getElem_cons hlt]
      rw [List.getElem?_eq_getElem hlt] at hx
      cases hx; rfl
    rw [hdrop, outS] at hout
    have hw : IntKind.i64.wrap ((c.ops.length : Int) + (j : Int)) = (c.ops.length : Int) + j := w64 (by omega) (by omega)
    conv => whnf
    refine br_case (fun g3 => ?_) (fun g3 => absurd (show (0 : Int) ≤ j ∧ (j : Int) < (c.out.length : Nat) from ⟨by omega, by omega⟩) (of_decide_eq_false g3))
    conv => whnf
    generalize hq : List.take _ (List.drop _ (List.drop _ _)) = q
    obtain rfl : q = otC x := hq.symm.trans (take_c (f := otC) (z := 2) (fun _ => rfl) hx)
    clear hq
    conv => whnf
    refine callK0 (by kernel_rfl) rfl rfl (by rfl) (tag_ok x.tag last) rfl ?_
    conv => whnf
    refine br_case (fun g4 => ?_) (fun g4 => ?_) <;> (try rw [g4])
    · have g4q : tagS x.tag last = false := by simpa using (show (!tagS x.tag last) = true from g4)
      rw [g4q] at hout
      conv => whnf
      refine bindP_of (leave1 (id := 3) (q := ⟨[], .nil, true⟩) (by rfl) (by rfl) (by rfl) (by rfl)) ?_
      rw [chkS_out hin1 hks (j := j) (by rw [hout]; simp)]
      refine ⟨0, .nil, ?_, rfl, .inr ⟨rfl, rfl⟩⟩
      show AV.tup [.sl 0 0 0 0, vi (IntKind.i64.wrap ((c.ops.length : Int) + (j : Int))), vi 150] = _
      rw [hw]; rfl
    have g4q : tagS x.tag last = true := by simpa using (show (!tagS x.tag last) = false from g4)
    rw [g4q] at hout
    conv => whnf
    refine br_case (fun g5 => ?_) (fun g5 => ?_) <;> (try rw [g5])
    · have g5q : x.place < 0 := of_decide_eq_true g5
      conv => whnf
      refine bindP_of (leave1 (id := 3) (q := ⟨[], .nil, true⟩) (by rfl) (by rfl) (by rfl) (by rfl)) ?_
      rw [chkS_out hin1 hks (j := j) (by rw [hout, if_neg (by simp; omega)])]
      refine ⟨0, .nil, ?_, rfl, .inr ⟨rfl, rfl⟩⟩
      show AV.tup [.sl 0 0 0 0, vi (IntKind.i64.wrap ((c.ops.length : Int) + (j : Int))), vi 150] = _
      rw [hw]; rfl
    have g5q : ¬ x.place < 0 := of_decide_eq_false g5
    conv => whnf
    refine br_case (fun g6 => ?_) (fun g6 => ?_)
    · have g6q : x.place ≥ (c.ops.length : Nat) := of_decide_eq_true g6
      conv => whnf
      refine bindP_of (leave1 (id := 3) (q := ⟨[], .nil, true⟩) (by rfl) (by rfl) (by rfl) (by rfl)) ?_
      rw [chkS_out hin1 hks (j := j) (by rw [hout, if_neg (by simp; omega)])]
      refine ⟨0, .nil, ?_, rfl, .inr ⟨rfl, rfl⟩⟩
      show AV.tup [.sl 0 0 0 0, vi (IntKind.i64.wrap ((c.ops.length : Int) + (j : Int))), vi 150] = _
      rw [hw]; rfl
    have g6q : ¬ x.place ≥ (c.ops.length : Nat) := of_decide_eq_false g6
    rw [if_pos (by simp; omega)] at hout
    conv => whnf
    exact ⟨(j + 1, x.tag), ⟨⟨hlt, hout⟩, by show c.out.length - (j + 1) < c.out.length - j; omega⟩,
      cln_ns [0, 1] (by decide) (fun i hi => absurd hi (Nat.not_lt_zero i)) ⟨⟨_, rfl, rfl, rfl⟩, ⟨_, rfl, rfl, hidn⟩, trivial⟩ ⟨⟨rfl, rfl⟩, ⟨rfl, rfl⟩, ⟨rfl, rfl⟩, ⟨rfl, rfl⟩, ⟨rfl, rfl⟩, ⟨congrArg vi (w64 (n := (j : Int) + 1) (by omega) (by omega)), rfl⟩, trivial⟩⟩
  · have gq : ¬ (j : Int) < (c.out.length : Nat) := of_decide_eq_false g
    have hno : outS c.ops.length 0 0 c.out = none := by
      rw [List.drop_eq_nil_of_le (by omega)] at hout
      exact hout
    conv => whnf
    refine bindP_of (leave1 (id := 1) (q := ⟨ks.map vi, ty, true⟩) (by rfl) (by rfl) hidn (by rfl)) ?_
    rw [chkS_ok hin1 hks hno]
    exact ⟨z, ty, rfl, rfl, hz⟩

/-- op.Check's contract. -/
theorem check_ok (c : Cd) (hc : ∀ o ∈ c.ops, o.sep.size < 4611686018427387904 ∧ o.val.s.size < 4611686018427387904) (h1 : c.inn.length < 4611686018427387904) (h2 : c.ops.length < 4611686018427387904) (h3 : c.out.length < 4611686018427387904) :
    ∃ z ty, FnOk E0 22 [.agg (cdC c)] [] (.tup [.sl 0 0 (chkS c).1.length z, vi (chkS c).2.1, vi (chkS c).2.2]) [⟨(chkS c).1.map vi, ty, true⟩] ∧ ksR (chkS c).1 z ty := by
  obtain ⟨r, out, h, z, ty, rfl, rfl, hz⟩ := fnK_ok pr0 np0 mo0 (check_walk c hc h1 h2 h3)
  exact ⟨z, ty, h, hz⟩
end Go.AI
