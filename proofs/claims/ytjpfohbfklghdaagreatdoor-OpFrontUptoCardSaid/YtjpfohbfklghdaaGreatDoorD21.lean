/-
  law15.OpFront answers true, behind awake: a code's beginning; all ahead of a fault is a code. Conditions: those that each theorem lists.
-/
import Derived.Test.YtjpfohbfklghdaaGreatDoorD20
set_option linter.all false
set_option maxRecDepth 100000
namespace Go.AI
open Go.Proofs
attribute [local irreducible] callK leave

theorem opsS_pre {inn : List Col} : ∀ {l : List Ins} {ks r : List Int}, opsS inn ks l = .ok r → r.take ks.length = ks
  | [], ks, r, h => by simp only [opsS] at h; cases h; exact List.take_length
  | o :: l, ks, r, h => by
    simp only [opsS] at h
    split at h
    · cases h
    split at h
    · cases h
    · rename_i q _
      have := opsS_pre h
      have h2 : (r.take (ks ++ [q]).length).take ks.length = ks := by rw [this]; simp
      rw [List.take_take] at h2
      simpa using h2
theorem opsS_take {inn : List Col} : ∀ {l : List Ins} {ks r : List Int} (k : Nat), opsS inn ks l = .ok r → k ≤ l.length → opsS inn ks (l.take k) = .ok (r.take (ks.length + k))
  | [], ks, r, k, h, hk => by
    simp only [opsS] at h; cases h
    have : k = 0 := by simpa using hk
    subst this
    simp [opsS]
  | o :: l, ks, r, 0, h, hk => by
    rw [List.take_zero, Nat.add_zero, opsS_pre h]; rfl
  | o :: l, ks, r, k + 1, h, hk => by
    simp only [opsS] at h
    split at h
    · cases h
    rename_i hge
    split at h
    · cases h
    · rename_i q hq
      have := opsS_take k h (by simpa using hk)
      rw [List.take_succ_cons, opsS, if_neg hge, hq]
      simp only
      rw [this]
      simp only [List.length_append, List.length_cons, List.length_nil]
      rw [show ks.length + (0 + 1) + k = ks.length + (k + 1) by omega]
theorem opsS_err {inn : List Col} : ∀ {l : List Ins} {ks : List Int} {i : Nat}, opsS inn ks l = .error i → ks.length ≤ i ∧ i ≤ ks.length + l.length ∧ ∃ r, opsS inn ks (l.take (i - ks.length)) = .ok r ∧ r.length = i
  | [], ks, i, h => by simp only [opsS] at h; cases h
  | o :: l, ks, i, h => by
    simp only [opsS] at h
    split at h
    · cases h
      exact ⟨Nat.le_refl _, Nat.le_add_right _ _, ks, by simp [opsS], rfl⟩
    rename_i hge
    split at h
    · cases h
      exact ⟨Nat.le_refl _, Nat.le_add_right _ _, ks, by simp [opsS], rfl⟩
    · rename_i q hq
      obtain ⟨h1, h2, r, h3, h4⟩ := opsS_err h
      simp only [List.length_append, List.length_cons, List.length_nil] at h1 h2 h3
      refine ⟨by omega, by simp only [List.length_cons]; omega, r, ?_, h4⟩
      rw [show i - ks.length = (i - (ks.length + (0 + 1))) + 1 by omega, List.take_succ_cons, opsS, if_neg hge, hq]
      exact h3

theorem chkS_front {c : Cd} {k : Nat} {r : List Int} (hin : inS 0 c.inn = true) (h : opsS c.inn [] (c.ops.take k) = .ok r) : chkS ⟨c.inn, c.ops.take k, []⟩ = (r, 0, 0) := chkS_ok (c := ⟨c.inn, c.ops.take k, []⟩) hin h rfl

theorem front1 (c : Cd) : (chkS c).2.2 = 0 ∨ ((chkS c).2.2 = 150 ∧ -1 ≤ (chkS c).2.1 ∧ ∀ k : Nat, (chkS c).2.1 = k → k ≤ c.ops.length → ∃ r, chkS ⟨c.inn, c.ops.take k, []⟩ = (r, 0, 0) ∧ r.length = k) := by
  cases hin : inS 0 c.inn with
  | false =>
    rw [chkS_in hin]
    refine .inr ⟨rfl, by decide, fun k hk => ?_⟩
    exfalso
    have : (-1 : Int) = k := hk
    omega
  | true =>
    cases hops : opsS c.inn [] c.ops with
    | error i =>
      rw [chkS_ops hin hops]
      obtain ⟨_, h2, r, h3, h4⟩ := opsS_err hops
      refine .inr ⟨rfl, by simp only; omega, fun k hk _ => ?_⟩
      have : i = k := by have : (i : Int) = k := hk; omega
      subst this
      exact ⟨r, chkS_front hin h3, h4⟩
    | ok ks =>
      cases hout : outS c.ops.length 0 0 c.out with
      | none => rw [chkS_ok hin hops hout]; exact .inl rfl
      | some j =>
        rw [chkS_out hin hops hout]
        refine .inr ⟨rfl, by simp only; omega, fun k hk hkl => ?_⟩
        have : (c.ops.length : Int) + j = k := hk
        have hkk : k = c.ops.length := by omega
        subst hkk
        have hlen := opsS_len hops
        exact ⟨ks, chkS_front hin (by rw [List.take_length]; exact hops), by simpa using hlen⟩
theorem front2 (c : Cd) (h : (chkS c).2.2 = 0) (k : Nat) (hk : k ≤ c.ops.length) : chkS ⟨c.inn, c.ops.take k, []⟩ = ((chkS c).1.take k, 0, 0) ∧ (chkS c).1.length = c.ops.length := by
  cases hin : inS 0 c.inn with
  | false => rw [chkS_in hin] at h; cases h
  | true =>
    cases hops : opsS c.inn [] c.ops with
    | error i => rw [chkS_ops hin hops] at h; cases h
    | ok ks =>
      cases hout : outS c.ops.length 0 0 c.out with
      | some j => rw [chkS_out hin hops hout] at h; cases h
      | none =>
        rw [chkS_ok hin hops hout]
        have := opsS_take k hops hk
        have hlen := opsS_len hops
        refine ⟨chkS_front hin (by simpa using this), by simpa using hlen⟩

theorem wide_ok (c : Cd) (hs : small c) : ∃ q, FnOk E0 32 [.agg (cdC c)] [] (vb q) [] := by
  obtain ⟨k1, k2, k3, _⟩ := hs
  obtain ⟨a, b, hab⟩ := size_ok c (by omega) (by omega) (by omega)
  suffices h : fnK E0 32 [.agg (cdC c)] [] (fun r out => (∃ q, r = vb q) ∧ out = []) by
    obtain ⟨r, out, h1, ⟨q, rfl⟩, rfl⟩ := fnK_ok pr0 np0 mo0 h
    exact ⟨q, h1⟩
  conv => whnf
  refine callK0 (by kernel_rfl) rfl rfl (by rfl) hab rfl ?_
  conv => whnf
  refine br_case (fun e => ?_) (fun e => ?_) <;> (try rw [e]) <;> (conv => whnf)
  · exact bindP_of (leave0 (by rfl)) ⟨⟨_, rfl⟩, rfl⟩
  · exact bindP_of (leave0 (by rfl)) ⟨⟨_, rfl⟩, rfl⟩

theorem getCells_take (l : List Ins) (k : Nat) (hk : k ≤ l.length) : getCells (inssC l) 0 (k * 7) = some (inssC (l.take k)) := by
  have e : (inssC l).take (k * 7) = inssC (l.take k) := by
    have h1 : inssC l = inssC (l.take k) ++ inssC (l.drop k) := by
      unfold inssC
      rw [← List.flatMap_append, List.take_append_drop]
    have h2 : (inssC (l.take k)).length = k * 7 := by rw [inssL, List.length_take]; congr 1; omega
    rw [h1, ← h2, List.take_left]
  unfold getCells
  rw [List.drop_zero, e, inssL, List.length_take, if_pos (by congr 1; omega)]

theorem front_cells (c : Cd) (k : Nat) (hk : k ≤ c.ops.length) : cdC ⟨c.inn, c.ops.take k, []⟩ = [.ext (colsC c.inn) c.inn.length, .ext (inssC (c.ops.take k)) k, .ext [] 0] := by
  have : (c.ops.take k).length = k := by rw [List.length_take]; omega
  simp only [cdC, this]
  rfl

theorem front_check (c : Cd) (hs : small c) (k : Nat) (hk : k ≤ c.ops.length) : ∃ z ty, FnOk E0 22 [.agg [.ext (colsC c.inn) c.inn.length, .ext (inssC (c.ops.take k)) k, .ext [] 0]] [] (.tup [.sl 0 0 (chkS ⟨c.inn, c.ops.take k, []⟩).1.length z, vi (chkS ⟨c.inn, c.ops.take k, []⟩).2.1, vi (chkS ⟨c.inn, c.ops.take k, []⟩).2.2]) [⟨(chkS ⟨c.inn, c.ops.take k, []⟩).1.map vi, ty, true⟩] ∧ ksR (chkS ⟨c.inn, c.ops.take k, []⟩).1 z ty := by
  obtain ⟨k1, k2, k3, k4⟩ := hs
  have := check_ok ⟨c.inn, c.ops.take k, []⟩ (fun o ho => k4 o (List.mem_of_mem_take ho)) (by simp only; omega) (by simp only [List.length_take]; omega) (by simp)
  rwa [front_cells c k hk] at this
end Go.AI
