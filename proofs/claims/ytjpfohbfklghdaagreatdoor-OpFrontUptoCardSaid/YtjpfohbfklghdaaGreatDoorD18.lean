/-
  law15.copied: a code as new memory. Conditions: those that each theorem lists (lengths far below the greatest).
-/
import Derived.Test.YtjpfohbfklghdaaGreatDoorD17
set_option linter.all false
set_option linter.unusedVariables false
set_option maxRecDepth 100000
namespace Go.AI
open Go.Proofs
attribute [local irreducible] callK leave

theorem reach_flat {rows : Rows} : ∀ (is acc : List Nat) (n : Nat), is.length ≤ n → (∀ i ∈ is, idsR rows i = []) → (acc ++ is).Nodup → reach rows n acc is = some (acc ++ is)
  | [], acc, n, _, _, _ => by cases n <;> simp [reach]
  | i :: is, acc, 0, h, _, _ => by simp at h
  | i :: is, acc, n + 1, h, hi, hnd => by
    have hni : acc.contains i = false := by
      rw [List.nodup_append] at hnd
      have := hnd.2.2
      simp only [List.contains_eq_mem, decide_eq_false_iff_not]
      intro hm
      exact this i hm i (by simp) rfl
    simp only [reach, hni, hi i (by simp)]
    have e : acc ++ i :: is = (acc ++ [i]) ++ is := by simp
    rw [e] at hnd ⊢
    simpa using reach_flat is (acc ++ [i]) n (by simpa using h) (fun j hj => hi j (by simp [hj])) hnd

theorem leave_ns {r : AV} {rows : List Row} {ns : List Nat} {qs : List Row} (h : idsV r = ns) (hnd : ns.Nodup) (hl : ns.length ≤ 100000) (hq : AllRows rows ns qs) : leave 0 r (fun i => rows[i]?) = some (ren (index ns) r, qs) := by
  have hget : ∀ i ∈ ns, ∃ q, rows[i]? = some q ∧ idsL q.cells = [] := by
    intro i hi
    obtain ⟨j, hj⟩ := List.getElem?_of_mem hi
    have hjl : j < qs.length := by rw [hq.length]; exact (List.getElem?_eq_some_iff.1 hj).1
    obtain ⟨h1, h2⟩ := hq.get j _ (List.getElem?_eq_getElem hjl)
    rw [List.getD_eq_getElem?_getD, hj] at h1
    exact ⟨_, h1, h2⟩
  have hflat : ∀ i ∈ ns, idsR (fun i => rows[i]?) i = [] := by
    intro i hi
    obtain ⟨q, h1, h2⟩ := hget i hi
    simp only [idsR, h1, h2]; split <;> rfl
  have hrows : ∀ (ms : List Nat) (ps : List Row), AllRows rows ms ps → rowsAt (fun i => rows[i]?) ms = some ps := by
    intro ms
    induction ms with
    | nil => intro ps hp; cases ps with
      | nil => rfl
      | cons _ _ => exact hp.elim
    | cons m ms ih => intro ps hp; cases ps with
      | nil => exact hp.elim
      | cons p ps =>
        obtain ⟨q, h1, rfl, _⟩ := hp.1
        simp only [rowsAt, h1, ih ps hp.2]
  have hren : ∀ (ms : List Nat) (ps : List Row), AllRows rows ms ps → ps.map (renR (index ns)) = ps := by
    intro ms
    induction ms with
    | nil => intro ps hp; cases ps with
      | nil => rfl
      | cons _ _ => exact hp.elim
    | cons m ms ih => intro ps hp; cases ps with
      | nil => exact hp.elim
      | cons p ps =>
        obtain ⟨q, h1, rfl, h2⟩ := hp.1
        simp only [List.map_cons, ih ps hp.2]
        cases q
        simp only [renR] at *
        rw [renL_none _ _ h2]
  unfold leave
  simp only [List.range_zero, List.flatMap_nil, List.nil_append, h]
  rw [reach_flat ns [] 100000 hl hflat (by simpa using hnd)]
  simp only [List.nil_append, hrows ns qs hq, hren ns qs hq]

theorem idsL_fm {α : Type} {f : α → List AV} (h : ∀ a, idsL (f a) = []) : ∀ l : List α, idsL (l.flatMap f) = []
  | [] => by simp [idsL]
  | a :: l => by rw [List.flatMap_cons, idsL_append, h, idsL_fm h l]; rfl
theorem idsCols (l : List Col) : idsL (colsC l) = [] := idsL_fm (fun _ => rfl) l
theorem idsInss (l : List Ins) : idsL (inssC l) = [] := idsL_fm (fun _ => rfl) l
theorem idsOts (l : List Ot) : idsL (otsC l) = [] := idsL_fm (fun _ => rfl) l
theorem colsL (l : List Col) : (colsC l).length = l.length * 3 := len_cells colC 3 (fun _ => rfl) l
theorem inssL (l : List Ins) : (inssC l).length = l.length * 7 := len_cells insC 7 (fun _ => rfl) l
theorem otsL (l : List Ot) : (otsC l).length = l.length * 2 := len_cells otC 2 (fun _ => rfl) l

def copiedV (c : Cd) : AV := .agg [.sl 0 0 c.inn.length 3, .sl 1 0 c.ops.length 7, .sl 2 0 c.out.length 2]
def copiedR (c : Cd) : List Row := [⟨colsC c.inn, .is 57, true⟩, ⟨inssC c.ops, .is 55, true⟩, ⟨otsC c.out, .is 59, true⟩]

set_option maxHeartbeats 8000000 in
theorem copied_000 : FnOk E0 23 [.agg (cdC ⟨[], [], []⟩)] [] (copiedV ⟨[], [], []⟩) (copiedR ⟨[], [], []⟩) := by
  apply fn_ok
  conv => whnf
  refine bindP_of (leave_ns (ns := [5, 6, 7]) (qs := copiedR ⟨[], [], []⟩) (by rfl) (by decide) (by decide) ⟨⟨_, rfl, rfl, rfl⟩, ⟨_, rfl, rfl, rfl⟩, ⟨_, rfl, rfl, rfl⟩, trivial⟩) ⟨?_, rfl⟩
  show AV.agg [.sl 0 0 _ 3, .sl 1 0 _ 7, .sl 2 0 _ 2] = AV.agg [.sl 0 0 _ 3, .sl 1 0 _ 7, .sl 2 0 _ 2]
  rfl
set_option maxHeartbeats 8000000 in
theorem copied_001 (z : Ot) (zs : List Ot) (hzs : (z :: zs).length < 1099511627776) : FnOk E0 23 [.agg (cdC ⟨[], [], z :: zs⟩)] [] (copiedV ⟨[], [], z :: zs⟩) (copiedR ⟨[], [], z :: zs⟩) := by
  apply fn_ok
  conv => whnf
  refine br_case (fun ga => ?_) (fun g => absurd (show (otsC (z :: zs)).length = (z :: zs).length * 2 from otsL _) (of_decide_eq_false g))
  conv => whnf
  refine br_case (fun ga => ?_) (fun g => absurd (show true = true ∧ ((RT.is 59 = RT.nil) ∨ 2 = 2) ∧ 0 + 0 * 2 ≤ ([] : List AV).length ∧ (0 + (z :: zs).length) * 16 ≤ 140737488355328 from ⟨rfl, .inr rfl, Nat.le_refl _, by omega⟩) (of_decide_eq_false g))
  conv => whnf
  refine bindP_of (leave_ns (ns := [5, 6, 8]) (qs := copiedR ⟨[], [], z :: zs⟩) (by rfl) (by decide) (by decide) ⟨⟨_, rfl, rfl, rfl⟩, ⟨_, rfl, rfl, rfl⟩, ⟨_, rfl, rfl, idsOts _⟩, trivial⟩) ⟨?_, rfl⟩
  show AV.agg [.sl 0 0 _ 3, .sl 1 0 _ 7, .sl 2 0 _ 2] = AV.agg [.sl 0 0 _ 3, .sl 1 0 _ 7, .sl 2 0 _ 2]
  (try simp only [Nat.zero_add]) <;> (try rfl)
set_option maxHeartbeats 8000000 in
theorem copied_010 (y : Ins) (ys : List Ins) (hys : (y :: ys).length < 1099511627776) : FnOk E0 23 [.agg (cdC ⟨[], y :: ys, []⟩)] [] (copiedV ⟨[], y :: ys, []⟩) (copiedR ⟨[], y :: ys, []⟩) := by
  apply fn_ok
  conv => whnf
  refine br_case (fun ga => ?_) (fun g => absurd (show (inssC (y :: ys)).length = (y :: ys).length * 7 from inssL _) (of_decide_eq_false g))
  conv => whnf
  refine br_case (fun ga => ?_) (fun g => absurd (show true = true ∧ ((RT.is 55 = RT.nil) ∨ 7 = 7) ∧ 0 + 0 * 7 ≤ ([] : List AV).length ∧ (0 + (y :: ys).length) * 72 ≤ 140737488355328 from ⟨rfl, .inr rfl, Nat.le_refl _, by omega⟩) (of_decide_eq_false g))
  conv => whnf
  refine bindP_of (leave_ns (ns := [5, 7, 8]) (qs := copiedR ⟨[], y :: ys, []⟩) (by rfl) (by decide) (by decide) ⟨⟨_, rfl, rfl, rfl⟩, ⟨_, rfl, rfl, idsInss _⟩, ⟨_, rfl, rfl, rfl⟩, trivial⟩) ⟨?_, rfl⟩
  show AV.agg [.sl 0 0 _ 3, .sl 1 0 _ 7, .sl 2 0 _ 2] = AV.agg [.sl 0 0 _ 3, .sl 1 0 _ 7, .sl 2 0 _ 2]
  (try simp only [Nat.zero_add]) <;> (try rfl)
set_option maxHeartbeats 8000000 in
theorem copied_011 (y : Ins) (ys : List Ins) (z : Ot) (zs : List Ot) (hys : (y :: ys).length < 1099511627776) (hzs : (z :: zs).length < 1099511627776) : FnOk E0 23 [.agg (cdC ⟨[], y :: ys, z :: zs⟩)] [] (copiedV ⟨[], y :: ys, z :: zs⟩) (copiedR ⟨[], y :: ys, z :: zs⟩) := by
  apply fn_ok
  conv => whnf
  refine br_case (fun ga => ?_) (fun g => absurd (show (inssC (y :: ys)).length = (y :: ys).length * 7 from inssL _) (of_decide_eq_false g))
  conv => whnf
  refine br_case (fun ga => ?_) (fun g => absurd (show true = true ∧ ((RT.is 55 = RT.nil) ∨ 7 = 7) ∧ 0 + 0 * 7 ≤ ([] : List AV).length ∧ (0 + (y :: ys).length) * 72 ≤ 140737488355328 from ⟨rfl, .inr rfl, Nat.le_refl _, by omega⟩) (of_decide_eq_false g))
  conv => whnf
  refine br_case (fun ga => ?_) (fun g => absurd (show (otsC (z :: zs)).length = (z :: zs).length * 2 from otsL _) (of_decide_eq_false g))
  conv => whnf
  refine br_case (fun ga => ?_) (fun g => absurd (show true = true ∧ ((RT.is 59 = RT.nil) ∨ 2 = 2) ∧ 0 + 0 * 2 ≤ ([] : List AV).length ∧ (0 + (z :: zs).length) * 16 ≤ 140737488355328 from ⟨rfl, .inr rfl, Nat.le_refl _, by omega⟩) (of_decide_eq_false g))
  conv => whnf
  refine bindP_of (leave_ns (ns := [5, 7, 9]) (qs := copiedR ⟨[], y :: ys, z :: zs⟩) (by rfl) (by decide) (by decide) ⟨⟨_, rfl, rfl, rfl⟩, ⟨_, rfl, rfl, idsInss _⟩, ⟨_, rfl, rfl, idsOts _⟩, trivial⟩) ⟨?_, rfl⟩
  show AV.agg [.sl 0 0 _ 3, .sl 1 0 _ 7, .sl 2 0 _ 2] = AV.agg [.sl 0 0 _ 3, .sl 1 0 _ 7, .sl 2 0 _ 2]
  (try simp only [Nat.zero_add]) <;> (try rfl)
set_option maxHeartbeats 8000000 in
theorem copied_100 (x : Col) (xs : List Col) (hxs : (x :: xs).length < 1099511627776) : FnOk E0 23 [.agg (cdC ⟨x :: xs, [], []⟩)] [] (copiedV ⟨x :: xs, [], []⟩) (copiedR ⟨x :: xs, [], []⟩) := by
  apply fn_ok
  conv => whnf
  refine br_case (fun ga => ?_) (fun g => absurd (show (colsC (x :: xs)).length = (x :: xs).length * 3 from colsL _) (of_decide_eq_false g))
  conv => whnf
  refine br_case (fun ga => ?_) (fun g => absurd (show true = true ∧ ((RT.is 57 = RT.nil) ∨ 3 = 3) ∧ 0 + 0 * 3 ≤ ([] : List AV).length ∧ (0 + (x :: xs).length) * 32 ≤ 140737488355328 from ⟨rfl, .inr rfl, Nat.le_refl _, by omega⟩) (of_decide_eq_false g))
  conv => whnf
  refine bindP_of (leave_ns (ns := [6, 7, 8]) (qs := copiedR ⟨x :: xs, [], []⟩) (by rfl) (by decide) (by decide) ⟨⟨_, rfl, rfl, idsCols _⟩, ⟨_, rfl, rfl, rfl⟩, ⟨_, rfl, rfl, rfl⟩, trivial⟩) ⟨?_, rfl⟩
  show AV.agg [.sl 0 0 _ 3, .sl 1 0 _ 7, .sl 2 0 _ 2] = AV.agg [.sl 0 0 _ 3, .sl 1 0 _ 7, .sl 2 0 _ 2]
  (try simp only [Nat.zero_add]) <;> (try rfl)
set_option maxHeartbeats 8000000 in
theorem copied_101 (x : Col) (xs : List Col) (z : Ot) (zs : List Ot) (hxs : (x :: xs).length < 1099511627776) (hzs : (z :: zs).length < 1099511627776) : FnOk E0 23 [.agg (cdC ⟨x :: xs, [], z :: zs⟩)] [] (copiedV ⟨x :: xs, [], z :: zs⟩) (copiedR ⟨x :: xs, [], z :: zs⟩) := by
  apply fn_ok
  conv => whnf
  refine br_case (fun ga => ?_) (fun g => absurd (show (colsC (x :: xs)).length = (x :: xs).length * 3 from colsL _) (of_decide_eq_false g))
  conv => whnf
  refine br_case (fun ga => ?_) (fun g => absurd (show true = true ∧ ((RT.is 57 = RT.nil) ∨ 3 = 3) ∧ 0 + 0 * 3 ≤ ([] : List AV).length ∧ (0 + (x :: xs).length) * 32 ≤ 140737488355328 from ⟨rfl, .inr rfl, Nat.le_refl _, by omega⟩) (of_decide_eq_false g))
  conv => whnf
  refine br_case (fun ga => ?_) (fun g => absurd (show (otsC (z :: zs)).length = (z :: zs).length * 2 from otsL _) (of_decide_eq_false g))
  conv => whnf
  refine br_case (fun ga => ?_) (fun g => absurd (show true = true ∧ ((RT.is 59 = RT.nil) ∨ 2 = 2) ∧ 0 + 0 * 2 ≤ ([] : List AV).length ∧ (0 + (z :: zs).length) * 16 ≤ 140737488355328 from ⟨rfl, .inr rfl, Nat.le_refl _, by omega⟩) (of_decide_eq_false g))
  conv => whnf
  refine bindP_of (leave_ns (ns := [6, 7, 9]) (qs := copiedR ⟨x :: xs, [], z :: zs⟩) (by rfl) (by decide) (by decide) ⟨⟨_, rfl, rfl, idsCols _⟩, ⟨_, rfl, rfl, rfl⟩, ⟨_, rfl, rfl, idsOts _⟩, trivial⟩) ⟨?_, rfl⟩
  show AV.agg [.sl 0 0 _ 3, .sl 1 0 _ 7, .sl 2 0 _ 2] = AV.agg [.sl 0 0 _ 3, .sl 1 0 _ 7, .sl 2 0 _ 2]
  (try simp only [Nat.zero_add]) <;> (try rfl)
set_option maxHeartbeats 8000000 in
theorem copied_110 (x : Col) (xs : List Col) (y : Ins) (ys : List Ins) (hxs : (x :: xs).length < 1099511627776) (hys : (y :: ys).length < 1099511627776) : FnOk E0 23 [.agg (cdC ⟨x :: xs, y :: ys, []⟩)] [] (copiedV ⟨x :: xs, y :: ys, []⟩) (copiedR ⟨x :: xs, y :: ys, []⟩) := by
  apply fn_ok
  conv => whnf
  refine br_case (fun ga => ?_) (fun g => absurd (show (colsC (x :: xs)).length = (x :: xs).length * 3 from colsL _) (of_decide_eq_false g))
  conv => whnf
  refine br_case (fun ga => ?_) (fun g => absurd (show true = true ∧ ((RT.is 57 = RT.nil) ∨ 3 = 3) ∧ 0 + 0 * 3 ≤ ([] : List AV).length ∧ (0 + (x :: xs).length) * 32 ≤ 140737488355328 from ⟨rfl, .inr rfl, Nat.le_refl _, by omega⟩) (of_decide_eq_false g))
  conv => whnf
  refine br_case (fun ga => ?_) (fun g => absurd (show (inssC (y :: ys)).length = (y :: ys).length * 7 from inssL _) (of_decide_eq_false g))
  conv => whnf
  refine br_case (fun ga => ?_) (fun g => absurd (show true = true ∧ ((RT.is 55 = RT.nil) ∨ 7 = 7) ∧ 0 + 0 * 7 ≤ ([] : List AV).length ∧ (0 + (y :: ys).length) * 72 ≤ 140737488355328 from ⟨rfl, .inr rfl, Nat.le_refl _, by omega⟩) (of_decide_eq_false g))
  conv => whnf
  refine bindP_of (leave_ns (ns := [6, 8, 9]) (qs := copiedR ⟨x :: xs, y :: ys, []⟩) (by rfl) (by decide) (by decide) ⟨⟨_, rfl, rfl, idsCols _⟩, ⟨_, rfl, rfl, idsInss _⟩, ⟨_, rfl, rfl, rfl⟩, trivial⟩) ⟨?_, rfl⟩
  show AV.agg [.sl 0 0 _ 3, .sl 1 0 _ 7, .sl 2 0 _ 2] = AV.agg [.sl 0 0 _ 3, .sl 1 0 _ 7, .sl 2 0 _ 2]
  (try simp only [Nat.zero_add]) <;> (try rfl)
set_option maxHeartbeats 8000000 in
theorem copied_111 (x : Col) (xs : List Col) (y : Ins) (ys : List Ins) (z : Ot) (zs : List Ot) (hxs : (x :: xs).length < 1099511627776) (hys : (y :: ys).length < 1099511627776) (hzs : (z :: zs).length < 1099511627776) : FnOk E0 23 [.agg (cdC ⟨x :: xs, y :: ys, z :: zs⟩)] [] (copiedV ⟨x :: xs, y :: ys, z :: zs⟩) (copiedR ⟨x :: xs, y :: ys, z :: zs⟩) := by
  apply fn_ok
  conv => whnf
  refine br_case (fun ga => ?_) (fun g => absurd (show (colsC (x :: xs)).length = (x :: xs).length * 3 from colsL _) (of_decide_eq_false g))
  conv => whnf
  refine br_case (fun ga => ?_) (fun g => absurd (show true = true ∧ ((RT.is 57 = RT.nil) ∨ 3 = 3) ∧ 0 + 0 * 3 ≤ ([] : List AV).length ∧ (0 + (x :: xs).length) * 32 ≤ 140737488355328 from ⟨rfl, .inr rfl, Nat.le_refl _, by omega⟩) (of_decide_eq_false g))
  conv => whnf
  refine br_case (fun ga => ?_) (fun g => absurd (show (inssC (y :: ys)).length = (y :: ys).length * 7 from inssL _) (of_decide_eq_false g))
  conv => whnf
  refine br_case (fun ga => ?_) (fun g => absurd (show true = true ∧ ((RT.is 55 = RT.nil) ∨ 7 = 7) ∧ 0 + 0 * 7 ≤ ([] : List AV).length ∧ (0 + (y :: ys).length) * 72 ≤ 140737488355328 from ⟨rfl, .inr rfl, Nat.le_refl _, by omega⟩) (of_decide_eq_false g))
  conv => whnf
  refine br_case (fun ga => ?_) (fun g => absurd (show (otsC (z :: zs)).length = (z :: zs).length * 2 from otsL _) (of_decide_eq_false g))
  conv => whnf
  refine br_case (fun ga => ?_) (fun g => absurd (show true = true ∧ ((RT.is 59 = RT.nil) ∨ 2 = 2) ∧ 0 + 0 * 2 ≤ ([] : List AV).length ∧ (0 + (z :: zs).length) * 16 ≤ 140737488355328 from ⟨rfl, .inr rfl, Nat.le_refl _, by omega⟩) (of_decide_eq_false g))
  conv => whnf
  refine bindP_of (leave_ns (ns := [6, 8, 10]) (qs := copiedR ⟨x :: xs, y :: ys, z :: zs⟩) (by rfl) (by decide) (by decide) ⟨⟨_, rfl, rfl, idsCols _⟩, ⟨_, rfl, rfl, idsInss _⟩, ⟨_, rfl, rfl, idsOts _⟩, trivial⟩) ⟨?_, rfl⟩
  show AV.agg [.sl 0 0 _ 3, .sl 1 0 _ 7, .sl 2 0 _ 2] = AV.agg [.sl 0 0 _ 3, .sl 1 0 _ 7, .sl 2 0 _ 2]
  (try simp only [Nat.zero_add]) <;> (try rfl)

/-- law15.copied -/
theorem copied_ok (c : Cd) (h1 : c.inn.length < 1099511627776) (h2 : c.ops.length < 1099511627776) (h3 : c.out.length < 1099511627776) : FnOk E0 23 [.agg (cdC c)] [] (copiedV c) (copiedR c) := by
  obtain ⟨inn, ops, out⟩ := c
  match inn, ops, out, h1, h2, h3 with
  | [], [], [], h1, h2, h3 => exact copied_000 
  | [], [], z :: zs, h1, h2, h3 => exact copied_001 z zs h3
  | [], y :: ys, [], h1, h2, h3 => exact copied_010 y ys h2
  | [], y :: ys, z :: zs, h1, h2, h3 => exact copied_011 y ys z zs h2 h3
  | x :: xs, [], [], h1, h2, h3 => exact copied_100 x xs h1
  | x :: xs, [], z :: zs, h1, h2, h3 => exact copied_101 x xs z zs h1 h3
  | x :: xs, y :: ys, [], h1, h2, h3 => exact copied_110 x xs y ys h1 h2
  | x :: xs, y :: ys, z :: zs, h1, h2, h3 => exact copied_111 x xs y ys z zs h1 h2 h3
end Go.AI
