/-
  law15.size, law15.much answer. Conditions: those that each theorem lists (lengths far below the greatest).
-/
import Derived.Test.YtjpfohbfklghdaaGreatDoorD17
set_option linter.all false
set_option linter.unusedVariables false
set_option maxRecDepth 100000
namespace Go.AI
open Go.Proofs
attribute [local irreducible] callK leave

theorem at_cI {α : Type} {f : α → List AV} {z : Nat} (hz : ∀ a, (f a).length = z) {l : List α} {i : Nat} {x : α} (h : l[i]? = some x) (o : Nat) (ho : o < z) : (List.drop o (List.drop (Int.toNat (i : Int) * z) (l.flatMap f)))[0]? = (f x)[o]? := at_c hz h o ho

theorem at_cI2 {α : Type} {f : α → List AV} {z : Nat} (hz : ∀ a, (f a).length = z) {l : List α} {i : Nat} {x : α} (h : l[i]? = some x) (o p : Nat) (ho : o + p < z) : (List.drop p (List.drop o (List.drop (Int.toNat (i : Int) * z) (l.flatMap f))))[0]? = (f x)[o + p]? := by
  rw [List.drop_drop]
  exact at_c hz h (o + p) ho

set_option maxHeartbeats 4000000 in
/-- law15.size answers two numbers. -/
theorem size_walk (c : Cd) (h1 : c.inn.length < 4611686018427387904) (h2 : c.ops.length < 4611686018427387904) (h3 : c.out.length < 4611686018427387904) :
    fnK E0 33 [.agg (cdC c)] [] (fun r out => (∃ a b, r = .tup [vi a, vi b]) ∧ out = []) := by
  conv => whnf
  refine loop_ind pr0 np0 mo0 (fun a : Nat × Int => ⟨tmps [(1, .ptr 0 0), (4, vi a.2), (5, vi a.1)], [⟨cdC c, .is 26, true⟩]⟩) (fun a => c.inn.length - a.1) (fun a => a.1 ≤ c.inn.length) ?_ (0, 0) (Nat.zero_le _)
    (cln_ns [0] (by decide) (fun i hi => absurd hi (Nat.not_lt_zero i)) ⟨⟨_, rfl, rfl, rfl⟩, trivial⟩ ⟨⟨rfl, rfl⟩, ⟨rfl, rfl⟩, ⟨rfl, rfl⟩, trivial⟩)
  rintro ⟨i, s⟩ hi
  simp only at hi
  conv => whnf
  refine br_case (fun g => ?_) (fun g => ?_) <;> (try rw [g])
  · have gq : (i : Int) < (c.inn.length : Nat) := of_decide_eq_true g
    have hlt : i < c.inn.length := by omega
    obtain ⟨x, hx⟩ : ∃ x, c.inn[i]? = some x := ⟨_, List.getElem?_eq_getElem hlt⟩
    conv => whnf
    refine br_case (fun g2 => ?_) (fun g2 => ?_) <;> (try rw [g2])
    · conv => whnf
      refine br_case (fun g3 => ?_) (fun g3 => absurd (show (0 : Int) ≤ i ∧ (i : Int) < (c.inn.length : Nat) from ⟨by omega, by omega⟩) (of_decide_eq_false g3))
      conv => whnf
      generalize hq : (List.drop _ (List.drop _ _))[0]? = q
      obtain rfl : q = some (vs x.name) := hq.symm.trans (at_cI (f := colC) (z := 3) (fun _ => rfl) hx 0 (by decide))
      clear hq
      conv => whnf
      exact ⟨(i + 1, IntKind.i64.wrap (s + (x.name.size : Nat))), ⟨hlt, by show c.inn.length - (i + 1) < c.inn.length - i; omega⟩,
        cln_ns [0] (by decide) (fun i hi => absurd hi (Nat.not_lt_zero i)) ⟨⟨_, rfl, rfl, rfl⟩, trivial⟩ ⟨⟨rfl, rfl⟩, ⟨rfl, rfl⟩, ⟨congrArg vi (w64 (n := (i : Int) + 1) (by omega) (by omega)), rfl⟩, trivial⟩⟩
    · conv => whnf
      clear g
      refine loop_ind pr0 np0 mo0 (fun a : Nat × Int => ⟨tmps [(1, .ptr 0 0), (4, vi a.2), (6, vi a.1)], [⟨cdC c, .is 26, true⟩]⟩) (fun a => c.ops.length - a.1) (fun a => a.1 ≤ c.ops.length) ?_ (0, s) (Nat.zero_le _)
        (cln_ns [0] (by decide) (fun i hi => absurd hi (Nat.not_lt_zero i)) ⟨⟨_, rfl, rfl, rfl⟩, trivial⟩ ⟨⟨rfl, rfl⟩, ⟨rfl, rfl⟩, ⟨rfl, rfl⟩, trivial⟩)
      rintro ⟨j, s2⟩ hj
      simp only at hj
      conv => whnf
      refine br_case (fun g => ?_) (fun g => ?_) <;> (try rw [g])
      · have gq : (j : Int) < (c.ops.length : Nat) := of_decide_eq_true g
        have hlt : j < c.ops.length := by omega
        obtain ⟨x, hx⟩ : ∃ x, c.ops[j]? = some x := ⟨_, List.getElem?_eq_getElem hlt⟩
        conv => whnf
        refine br_case (fun g2 => ?_) (fun g2 => ?_) <;> (try rw [g2])
        · conv => whnf
          refine br_case (fun g3 => ?_) (fun g3 => absurd (show (0 : Int) ≤ j ∧ (j : Int) < (c.ops.length : Nat) from ⟨by omega, by omega⟩) (of_decide_eq_false g3))
          conv => whnf
          generalize hq : (List.drop _ (List.drop _ _))[0]? = q
          obtain rfl : q = some (vs x.sep) := hq.symm.trans (at_cI (f := insC) (z := 7) (fun _ => rfl) hx 3 (by decide))
          clear hq
          conv => whnf
          refine br_case (fun g4 => ?_) (fun g4 => absurd (show (0 : Int) ≤ j ∧ (j : Int) < (c.ops.length : Nat) from ⟨by omega, by omega⟩) (of_decide_eq_false g4))
          conv => whnf
          generalize hq : (List.drop _ (List.drop _ (List.drop _ _)))[0]? = q
          obtain rfl : q = some (vs x.val.s) := hq.symm.trans (at_cI2 (f := insC) (z := 7) (fun _ => rfl) hx 4 2 (by decide))
          clear hq
          conv => whnf
          exact ⟨(j + 1, IntKind.i64.wrap (IntKind.i64.wrap (s2 + (x.sep.size : Nat)) + (x.val.s.size : Nat))), ⟨hlt, by show c.ops.length - (j + 1) < c.ops.length - j; omega⟩,
            cln_ns [0] (by decide) (fun i hi => absurd hi (Nat.not_lt_zero i)) ⟨⟨_, rfl, rfl, rfl⟩, trivial⟩ ⟨⟨rfl, rfl⟩, ⟨rfl, rfl⟩, ⟨congrArg vi (w64 (n := (j : Int) + 1) (by omega) (by omega)), rfl⟩, trivial⟩⟩
        · conv => whnf
          exact bindP_of (leave0 (by rfl)) ⟨⟨_, _, rfl⟩, rfl⟩
      · conv => whnf
        exact bindP_of (leave0 (by rfl)) ⟨⟨_, _, rfl⟩, rfl⟩
  · conv => whnf
    clear g
    refine loop_ind pr0 np0 mo0 (fun a : Nat × Int => ⟨tmps [(1, .ptr 0 0), (4, vi a.2), (6, vi a.1)], [⟨cdC c, .is 26, true⟩]⟩) (fun a => c.ops.length - a.1) (fun a => a.1 ≤ c.ops.length) ?_ (0, s) (Nat.zero_le _)
      (cln_ns [0] (by decide) (fun i hi => absurd hi (Nat.not_lt_zero i)) ⟨⟨_, rfl, rfl, rfl⟩, trivial⟩ ⟨⟨rfl, rfl⟩, ⟨rfl, rfl⟩, ⟨rfl, rfl⟩, trivial⟩)
    rintro ⟨j, s2⟩ hj
    simp only at hj
    conv => whnf
    refine br_case (fun g => ?_) (fun g => ?_) <;> (try rw [g])
    · have gq : (j : Int) < (c.ops.length : Nat) := of_decide_eq_true g
      have hlt : j < c.ops.length := by omega
      obtain ⟨x, hx⟩ : ∃ x, c.ops[j]? = some x := ⟨_, List.getElem?_eq_getElem hlt⟩
      conv => whnf
      refine br_case (fun g2 => ?_) (fun g2 => ?_) <;> (try rw [g2])
      · conv => whnf
        refine br_case (fun g3 => ?_) (fun g3 => absurd (show (0 : Int) ≤ j ∧ (j : Int) < (c.ops.length : Nat) from ⟨by omega, by omega⟩) (of_decide_eq_false g3))
        conv => whnf
        generalize hq : (List.drop _ (List.drop _ _))[0]? = q
        obtain rfl : q = some (vs x.sep) := hq.symm.trans (at_cI (f := insC) (z := 7) (fun _ => rfl) hx 3 (by decide))
        clear hq
        conv => whnf
        refine br_case (fun g4 => ?_) (fun g4 => absurd (show (0 : Int) ≤ j ∧ (j : Int) < (c.ops.length : Nat) from ⟨by omega, by omega⟩) (of_decide_eq_false g4))
        conv => whnf
        generalize hq : (List.drop _ (List.drop _ (List.drop _ _)))[0]? = q
        obtain rfl : q = some (vs x.val.s) := hq.symm.trans (at_cI2 (f := insC) (z := 7) (fun _ => rfl) hx 4 2 (by decide))
        clear hq
        conv => whnf
        exact ⟨(j + 1, IntKind.i64.wrap (IntKind.i64.wrap (s2 + (x.sep.size : Nat)) + (x.val.s.size : Nat))), ⟨hlt, by show c.ops.length - (j + 1) < c.ops.length - j; omega⟩,
          cln_ns [0] (by decide) (fun i hi => absurd hi (Nat.not_lt_zero i)) ⟨⟨_, rfl, rfl, rfl⟩, trivial⟩ ⟨⟨rfl, rfl⟩, ⟨rfl, rfl⟩, ⟨congrArg vi (w64 (n := (j : Int) + 1) (by omega) (by omega)), rfl⟩, trivial⟩⟩
      · conv => whnf
        exact bindP_of (leave0 (by rfl)) ⟨⟨_, _, rfl⟩, rfl⟩
    · conv => whnf
      exact bindP_of (leave0 (by rfl)) ⟨⟨_, _, rfl⟩, rfl⟩
theorem size_ok (c : Cd) (h1 : c.inn.length < 4611686018427387904) (h2 : c.ops.length < 4611686018427387904) (h3 : c.out.length < 4611686018427387904) : ∃ a b, FnOk E0 33 [.agg (cdC c)] [] (.tup [vi a, vi b]) [] := by
  obtain ⟨r, out, h, ⟨a, b, rfl⟩, rfl⟩ := fnK_ok pr0 np0 mo0 (size_walk c h1 h2 h3)
  exact ⟨a, b, h⟩

def cdsC (l : List Cd) : List AV := l.flatMap cdC
def small (c : Cd) : Prop := c.inn.length < 1099511627776 ∧ c.ops.length < 1099511627776 ∧ c.out.length < 1099511627776 ∧ ∀ o ∈ c.ops, o.sep.size < 4611686018427387904 ∧ o.val.s.size < 4611686018427387904

/-- law15.much answers yes or no. -/
theorem much_walk (l : List Cd) (hl : l.length < 4611686018427387904) (hs : ∀ c ∈ l, small c) : fnK E0 21 [.ext (cdsC l) l.length] [] (fun r out => (∃ q, r = vb q) ∧ out = []) := by
  conv => whnf
  refine loop_ind pr0 np0 mo0 (fun a : Nat × Int × Int => ⟨tmps [(0, .ext (cdsC l) l.length), (3, vi a.2.1), (4, vi a.2.2), (5, vi a.1)], []⟩) (fun a => l.length - a.1) (fun a => a.1 ≤ l.length) ?_ (0, 0, 0) (Nat.zero_le _)
    (cln_ns [] (by decide) (fun i hi => absurd hi (Nat.not_lt_zero i)) trivial ⟨⟨rfl, rfl⟩, ⟨rfl, rfl⟩, ⟨rfl, rfl⟩, ⟨rfl, rfl⟩, trivial⟩)
  rintro ⟨i, n, s⟩ hi
  simp only at hi
  conv => whnf
  refine br_case (fun g => ?_) (fun g => ?_) <;> (try rw [g])
  · have gq : (i : Int) < (l.length : Nat) := of_decide_eq_true g
    have hlt : i < l.length := by omega
    obtain ⟨c, hx⟩ : ∃ c, l[i]? = some c := ⟨_, List.getElem?_eq_getElem hlt⟩
    obtain ⟨k1, k2, k3, _⟩ := hs c (List.mem_of_getElem? hx)
    obtain ⟨a, b, hab⟩ := size_ok c (by omega) (by omega) (by omega)
    conv => whnf
    refine br_case (fun g2 => ?_) (fun g2 => ?_) <;> (try rw [g2])
    · conv => whnf
      refine br_case (fun g3 => ?_) (fun g3 => ?_) <;> (try rw [g3])
      · conv => whnf
        refine br_case (fun g4 => ?_) (fun g4 => absurd (show (0 : Int) ≤ i ∧ (i : Int) < (l.length : Nat) from ⟨by omega, by omega⟩) (of_decide_eq_false g4))
        conv => whnf
        generalize hq : List.take _ (List.drop _ (List.drop _ _)) = q
        obtain rfl : q = cdC c := hq.symm.trans (take_c (f := cdC) (z := 3) (fun _ => rfl) hx)
        clear hq
        conv => whnf
        refine callK0 (by kernel_rfl) rfl rfl (by rfl) hab rfl ?_
        conv => whnf
        exact ⟨(i + 1, IntKind.i64.wrap (IntKind.i64.wrap (n + 1) + a), IntKind.i64.wrap (s + b)), ⟨hlt, by show l.length - (i + 1) < l.length - i; omega⟩,
          cln_ns [] (by decide) (fun i hi => absurd hi (Nat.not_lt_zero i)) trivial ⟨⟨rfl, rfl⟩, ⟨rfl, rfl⟩, ⟨rfl, rfl⟩, ⟨congrArg vi (w64 (n := (i : Int) + 1) (by omega) (by omega)), rfl⟩, trivial⟩⟩
      · conv => whnf
        refine br_case (fun e => ?_) (fun e => ?_) <;> (try rw [e]) <;> (conv => whnf)
        · exact bindP_of (leave0 (by rfl)) ⟨⟨_, rfl⟩, rfl⟩
        · exact bindP_of (leave0 (by rfl)) ⟨⟨_, rfl⟩, rfl⟩
    · conv => whnf
      refine br_case (fun e => ?_) (fun e => ?_) <;> (try rw [e]) <;> (conv => whnf)
      · exact bindP_of (leave0 (by rfl)) ⟨⟨_, rfl⟩, rfl⟩
      · exact bindP_of (leave0 (by rfl)) ⟨⟨_, rfl⟩, rfl⟩
  · conv => whnf
    refine br_case (fun e => ?_) (fun e => ?_) <;> (try rw [e]) <;> (conv => whnf)
    · exact bindP_of (leave0 (by rfl)) ⟨⟨_, rfl⟩, rfl⟩
    · exact bindP_of (leave0 (by rfl)) ⟨⟨_, rfl⟩, rfl⟩

theorem much_ok (l : List Cd) (hl : l.length < 4611686018427387904) (hs : ∀ c ∈ l, small c) : ∃ q, FnOk E0 21 [.ext (cdsC l) l.length] [] (vb q) [] := by
  obtain ⟨r, out, h, ⟨q, rfl⟩, rfl⟩ := fnK_ok pr0 np0 mo0 (much_walk l hl hs)
  exact ⟨q, h⟩
end Go.AI
