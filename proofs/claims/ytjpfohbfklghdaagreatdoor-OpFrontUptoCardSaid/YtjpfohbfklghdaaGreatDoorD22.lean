/-
  law15.OpFront answers true, behind awake. Conditions: those that the theorem lists.
-/
import Derived.Test.YtjpfohbfklghdaaGreatDoorD21
set_option linter.all false
set_option maxRecDepth 100000
namespace Go.AI
open Go.Proofs
attribute [local irreducible] callK leave chkS

theorem copiedFlat (c : Cd) : ∀ q ∈ copiedR c, idsL q.cells = [] := fun q hq => by
  simp only [copiedR, List.mem_cons, List.not_mem_nil, or_false] at hq
  rcases hq with rfl | rfl | rfl
  · exact idsCols _
  · exact idsInss _
  · exact idsOts _

set_option maxHeartbeats 8000000 in
theorem opFront_of (hawake : FnOk E0 20 [] [] (vb true) []) (c : Cd) (n : Int) (hs : small c) : FnOk E0 8 [.agg (cdC c), vi n] [] (vb true) [] := by
  obtain ⟨q, hq⟩ := wide_ok c hs
  obtain ⟨k1, k2, k3, k4⟩ := hs
  obtain ⟨z, ty, hch, hz⟩ := check_ok c k4 (by omega) (by omega) (by omega)
  have hf1 := front1 c
  have hf2 := front2 c
  have hfc := front_check c ⟨k1, k2, k3, k4⟩
  have hKl := chkS_len c
  generalize hp : chkS c = p at hch hz hf1 hf2 hKl
  obtain ⟨K, A, e⟩ := p
  simp only at hch hz hf1 hf2 hKl
  have hK : idsL (K.map vi) = [] := idsL_none vi (fun _ => rfl) K
  apply fn_ok
  conv => whnf
  refine callK0 (by kernel_rfl) rfl rfl (by rfl) hawake rfl ?_
  conv => whnf
  refine callK0 (by kernel_rfl) rfl rfl (by rfl) hq rfl ?_
  conv => whnf
  refine br_case (fun g => ?_) (fun g => ?_) <;> (try rw [g])
  · conv => whnf
    exact ends (by rfl) rfl
  conv => whnf
  refine callK0f (by kernel_rfl) rfl rfl (by rfl) (copied_ok c k1 k2 k3) rfl (copiedFlat c) ?_
  conv => whnf
  refine callK0f (us := [1, 2, 3]) (args' := [.agg (cdC c)]) (by kernel_rfl) rfl (reach3 (a := 1) (b := 2) (c := 3) (q := ⟨colsC c.inn, .is 57, true⟩) (p := ⟨inssC c.ops, .is 55, true⟩) (s := ⟨otsC c.out, .is 59, true⟩) rfl rfl rfl (idsCols _) (idsInss _) (idsOts _) (by decide))
    (mapO_cons (passV_agg (mapO_cons (passV_sl (r := ⟨colsC c.inn, .is 57, true⟩) rfl rfl (getCells_all _ _ (colsL _).symm) (plainCols _)) (mapO_cons (passV_sl (r := ⟨inssC c.ops, .is 55, true⟩) rfl rfl (getCells_all _ _ (inssL _).symm) (plainInss _)) (mapO_cons (passV_sl (r := ⟨otsC c.out, .is 59, true⟩) rfl rfl (getCells_all _ _ (otsL _).symm) (plainOts _)) rfl)))) rfl) hch
    (by rw [Bool.or_eq_true]; refine .inr ?_; show (true && (noExtL (K.map vi) && true)) = true; rw [noExtL_map vi (fun _ => rfl) K]; rfl) (fun q hq => by
      simp only [List.mem_cons, List.not_mem_nil, or_false] at hq
      subst hq
      exact hK) ?_
  conv => whnf
  refine callK0f (by kernel_rfl) rfl rfl (by rfl) (copied_ok c k1 k2 k3) rfl (copiedFlat c) ?_
  conv => whnf
  refine br_case (fun ge => ?_) (fun ge => ?_) <;> (try rw [ge])
  · have geq : e ≠ 0 := by
      have : (e != 0) = true := ge
      simpa using this
    obtain ⟨he, hA, hfr⟩ : e = 150 ∧ -1 ≤ A ∧ ∀ k : Nat, A = k → k ≤ c.ops.length → ∃ r, chkS ⟨c.inn, c.ops.take k, []⟩ = (r, 0, 0) ∧ r.length = k := by
      rcases hf1 with h | h
      · exact absurd h geq
      · exact h
    conv => whnf
    refine br_case (fun g1 => ?_) (fun g1 => ?_) <;> (try rw [g1])
    · conv => whnf
      refine ends (by rfl) ?_
      exact congrArg vb (show decide (A ≥ -1) = true from decide_eq_true (by omega))
    have g1q : ¬ A < 0 := of_decide_eq_false g1
    conv => whnf
    refine br_case (fun g2 => ?_) (fun g2 => ?_)
    · conv => whnf
      refine ends (by rfl) ?_
      exact congrArg vb (show decide (A ≥ -1) = true from decide_eq_true (by omega))
    have g2q : ¬ A > (c.ops.length : Nat) := of_decide_eq_false g2
    obtain ⟨k, rfl⟩ : ∃ k : Nat, A = k := ⟨A.toNat, by omega⟩
    have hk : k ≤ c.ops.length := by omega
    obtain ⟨r, hr, hrl⟩ := hfr k rfl hk
    obtain ⟨z2, ty2, hch2, hz2⟩ := hfc k hk
    rw [hr] at hch2 hz2
    simp only at hch2 hz2
    have hR : idsL (r.map vi) = [] := idsL_none vi (fun _ => rfl) r
    conv => whnf
    refine br_case (fun g3 => ?_) (fun g3 => absurd (show (0 : Int) ≤ k ∧ (k : Int) ≤ ((max c.ops.length (((inssC c.ops).length - 0) / 7) : Nat) : Int) from ⟨by omega, by have := Nat.le_max_left c.ops.length (((inssC c.ops).length - 0) / 7); omega⟩) (of_decide_eq_false g3))
    conv => whnf
    refine callK0f (us := [5, 6, 12]) (args' := [.agg [.ext (colsC c.inn) c.inn.length, .ext (inssC (c.ops.take k)) k, .ext [] 0]]) (by kernel_rfl) rfl (reach3 (a := 5) (b := 6) (c := 12) (q := ⟨colsC c.inn, .is 57, true⟩) (p := ⟨inssC c.ops, .is 55, true⟩) (s := ⟨[], .nil, true⟩) rfl rfl rfl (idsCols _) (idsInss _) rfl (by decide))
      (mapO_cons (passV_agg (mapO_cons (passV_sl (r := ⟨colsC c.inn, .is 57, true⟩) rfl rfl (getCells_all _ _ (colsL _).symm) (plainCols _)) (mapO_cons (passV_sl (r := ⟨inssC c.ops, .is 55, true⟩) rfl rfl (getCells_take c.ops k hk) (plainInss _)) (mapO_cons (passV_sl (r := ⟨[], .nil, true⟩) rfl rfl rfl rfl) rfl)))) rfl) hch2
      (by rw [Bool.or_eq_true]; refine .inr ?_; show (true && (noExtL (r.map vi) && true)) = true; rw [noExtL_map vi (fun _ => rfl) r]; rfl) (fun q hq => by
        simp only [List.mem_cons, List.not_mem_nil, or_false] at hq
        subst hq
        exact hR) ?_
    conv => whnf
    refine ends (by rfl) ?_
    exact congrArg vb (show ((r.length : Int) == (k : Int)) = true by simp [hrl])
  · have heq : e = 0 := by
      have : (e != 0) = false := ge
      simpa using this
    conv => whnf
    refine br_case (fun g1 => ?_) (fun g1 => ?_) <;> (try rw [g1])
    · conv => whnf
      exact ends (by rfl) rfl
    have g1q : ¬ n < 0 := of_decide_eq_false g1
    conv => whnf
    refine br_case (fun g2 => ?_) (fun g2 => ?_)
    · conv => whnf
      exact ends (by rfl) rfl
    have g2q : ¬ n > (c.ops.length : Nat) := of_decide_eq_false g2
    obtain ⟨k, rfl⟩ : ∃ k : Nat, n = k := ⟨n.toNat, by omega⟩
    have hk : k ≤ c.ops.length := by omega
    obtain ⟨hr, hKe⟩ := hf2 heq k hk
    obtain ⟨z2, ty2, hch2, hz2⟩ := hfc k hk
    rw [hr] at hch2 hz2
    simp only at hch2 hz2
    have hlk : (K.take k).length = k := by rw [List.length_take]; omega
    have hints := ints_ok (K.take k) (K.take k) (by omega)
    rw [hlk] at hch2 hints
    have hR : idsL ((K.take k).map vi) = [] := idsL_none vi (fun _ => rfl) _
    have hzk : k * z2 = ((K.take k).map vi).length := by
      rw [List.length_map, hlk]
      rcases hz2 with rfl | ⟨h0, _⟩
      · exact Nat.mul_one _
      · rw [hlk] at h0; rw [h0, Nat.zero_mul]
    have hzz : ty = .nil ∨ z = 1 := by
      rcases hz with h | h
      · exact .inr h
      · exact .inl h.2
    have hgk : getCells (K.map vi) 0 (k * 1) = some ((K.take k).map vi) := by
      unfold getCells
      rw [List.drop_zero, Nat.mul_one, ← List.map_take, List.length_map, hlk, if_pos rfl]
    conv => whnf
    refine br_case (fun g3 => ?_) (fun g3 => absurd (show (0 : Int) ≤ k ∧ (k : Int) ≤ ((max c.ops.length (((inssC c.ops).length - 0) / 7) : Nat) : Int) from ⟨by omega, by have := Nat.le_max_left c.ops.length (((inssC c.ops).length - 0) / 7); omega⟩) (of_decide_eq_false g3))
    conv => whnf
    refine callK0f (us := [5, 6, 12]) (args' := [.agg [.ext (colsC c.inn) c.inn.length, .ext (inssC (c.ops.take k)) k, .ext [] 0]]) (by kernel_rfl) rfl (reach3 (a := 5) (b := 6) (c := 12) (q := ⟨colsC c.inn, .is 57, true⟩) (p := ⟨inssC c.ops, .is 55, true⟩) (s := ⟨[], .nil, true⟩) rfl rfl rfl (idsCols _) (idsInss _) rfl (by decide))
      (mapO_cons (passV_agg (mapO_cons (passV_sl (r := ⟨colsC c.inn, .is 57, true⟩) rfl rfl (getCells_all _ _ (colsL _).symm) (plainCols _)) (mapO_cons (passV_sl (r := ⟨inssC c.ops, .is 55, true⟩) rfl rfl (getCells_take c.ops k hk) (plainInss _)) (mapO_cons (passV_sl (r := ⟨[], .nil, true⟩) rfl rfl rfl rfl) rfl)))) rfl) hch2
      (by rw [Bool.or_eq_true]; refine .inr ?_; show (true && (noExtL ((K.take k).map vi) && true)) = true; rw [noExtL_map vi (fun _ => rfl) _]; rfl) (fun q hq => by
        simp only [List.mem_cons, List.not_mem_nil, or_false] at hq
        subst hq
        exact hR) ?_
    conv => whnf
    refine br_case (fun g4 => ?_) (fun g4 => absurd (show true = true ∧ (ty = .nil ∨ z = 1) ∧ 1 ≠ 0 from ⟨rfl, hzz, by decide⟩) (of_decide_eq_false g4))
    conv => whnf
    refine br_case (fun g5 => ?_) (fun g5 => absurd (show (0 : Int) ≤ k ∧ (k : Int) ≤ ((max K.length (((K.map vi).length - 0) / 1) : Nat) : Int) from ⟨by omega, by have := Nat.le_max_left K.length (((K.map vi).length - 0) / 1); omega⟩) (of_decide_eq_false g5))
    conv => whnf
    refine callK0 (us := [13, 4]) (args' := [.ext ((K.take k).map vi) k, .ext ((K.take k).map vi) k]) (by kernel_rfl) rfl (reach2 (a := 13) (b := 4) (q := ⟨(K.take k).map vi, ty2, true⟩) (p := ⟨K.map vi, ty, true⟩) rfl rfl hR hK (by decide))
      (mapO_cons (passV_sl (r := ⟨(K.take k).map vi, ty2, true⟩) rfl rfl (getCells_all _ _ hzk) (plainL_map vi (fun _ => rfl) _)) (mapO_cons (passV_sl (r := ⟨K.map vi, ty, true⟩) rfl rfl hgk (plainL_map vi (fun _ => rfl) _)) rfl)) hints rfl ?_
    conv => whnf
    refine ends (by rfl) ?_
    exact congrArg vb (decide_eq_true rfl)
end Go.AI
