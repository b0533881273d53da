/-
  law15.OpChecks answers true, behind awake. Conditions: those that each theorem lists (lengths far below the greatest).
-/
import Derived.Test.YtjpfohbfklghdaaGreatDoorD18
import Derived.Test.YtjpfohbfklghdaaGreatDoorD19
set_option linter.all false
set_option linter.unusedVariables false
set_option maxRecDepth 100000
namespace Go.AI
open Go.Proofs
attribute [local irreducible] callK leave

theorem callK0f {E : Env} {f : FuncId} {args args' : List AV} {rows : Rows} {next : Nat} {k : EK} {us : List Nat} {r : AV} {out : List Row} (hf : entersOk E f = true) (h0 : rootsL (E.byRef f) args = [])
    (hus : reach rows 100000 [] (idsL args) = some us) (hargs : mapO (passV (E.byRef f) rows [] 30) args = some args') (hok : FnOk E f args' [] r out)
    (hc : ((idsL args).isEmpty || noExt r && out.all fun q => noExtL q.cells) = true) (hfl : ∀ q ∈ out, idsL q.cells = []) (hk : k (ren (next + ·) r) [] out us) : callK E f args rows next k := by
  refine callK0 hf h0 hus hargs hok hc ?_
  have : out.map (renR (next + ·)) = out := by
    conv => rhs; rw [← List.map_id out]
    refine List.map_congr_left fun q hq => ?_
    have := hfl q hq
    cases q
    simp only [renR, id] at *
    rw [renL_none _ _ this]
  rw [this]
  exact hk
theorem passV_agg {b : Bool} {rows : Rows} {n : Nat} {cs cs' : List AV} (h : mapO (passV b rows [] n) cs = some cs') : passV b rows [] (n + 1) (.agg cs) = some (.agg cs') := by
  simp only [passV, h, Option.map_some]
theorem plainCols (l : List Col) : plainL (colsC l) = true := by
  rw [plainL_all, List.all_eq_true]; intro c hc
  obtain ⟨x, _, hx⟩ := List.mem_flatMap.1 hc
  simp only [colC, List.mem_cons, List.not_mem_nil, or_false] at hx
  rcases hx with rfl | rfl | rfl <;> rfl
theorem plainInss (l : List Ins) : plainL (inssC l) = true := by
  rw [plainL_all, List.all_eq_true]; intro c hc
  obtain ⟨x, _, hx⟩ := List.mem_flatMap.1 hc
  simp only [insC, List.mem_cons, List.not_mem_nil, or_false] at hx
  rcases hx with rfl | rfl | rfl | rfl | rfl | rfl | rfl <;> rfl
theorem plainOts (l : List Ot) : plainL (otsC l) = true := by
  rw [plainL_all, List.all_eq_true]; intro c hc
  obtain ⟨x, _, hx⟩ := List.mem_flatMap.1 hc
  simp only [otC, List.mem_cons, List.not_mem_nil, or_false] at hx
  rcases hx with rfl | rfl <;> rfl
theorem idsR_flat {rows : Rows} {id : Nat} {q : Row} (h : rows id = some q) (hn : idsL q.cells = []) : idsR rows id = [] := by
  simp only [idsR, h, hn]; split <;> rfl
theorem reach2 {rows : Rows} {a b : Nat} {q p : Row} (h : rows a = some q) (h' : rows b = some p) (hn : idsL q.cells = []) (hn' : idsL p.cells = []) (hab : a ≠ b) : reach rows 100000 [] [a, b] = some [a, b] :=
  reach_flat [a, b] [] 100000 (by simp) (fun i hi => by
    simp only [List.mem_cons, List.not_mem_nil, or_false] at hi
    rcases hi with rfl | rfl
    · exact idsR_flat h hn
    · exact idsR_flat h' hn') (by simp [hab])
theorem reach3 {rows : Rows} {a b c : Nat} {q p s : Row} (h : rows a = some q) (h' : rows b = some p) (h'' : rows c = some s) (hn : idsL q.cells = []) (hn' : idsL p.cells = []) (hn'' : idsL s.cells = []) (hab : [a, b, c].Nodup) : reach rows 100000 [] [a, b, c] = some [a, b, c] :=
  reach_flat [a, b, c] [] 100000 (by simp) (fun i hi => by
    simp only [List.mem_cons, List.not_mem_nil, or_false] at hi
    rcases hi with rfl | rfl | rfl
    · exact idsR_flat h hn
    · exact idsR_flat h' hn'
    · exact idsR_flat h'' hn'') hab

theorem opsS_len {inn : List Col} : ∀ {l : List Ins} {ks r : List Int}, opsS inn ks l = .ok r → r.length = ks.length + l.length
  | [], ks, r, h => by simp only [opsS] at h; cases h; rfl
  | o :: l, ks, r, h => by
    simp only [opsS] at h
    split at h
    · cases h
    split at h
    · cases h
    · have := opsS_len h
      simp only [List.length_append, List.length_cons, List.length_nil] at this ⊢
      omega
theorem chkS_len (c : Cd) : (chkS c).1.length ≤ c.ops.length := by
  unfold chkS
  split
  · simp
  split
  · simp
  · rename_i ks h
    split
    · simp
    · have := opsS_len h
      simp only [List.length_nil] at this
      simp only
      omega

set_option maxHeartbeats 4000000 in
/-- law15.OpChecks, behind 'awake'. -/
theorem opChecks_of (hawake : FnOk E0 20 [] [] (vb true) []) (l : List Cd) (hl : l.length < 4611686018427387904) (hs : ∀ c ∈ l, small c) : FnOk E0 4 [.ext (cdsC l) l.length] [] (vb true) [] := by
  obtain ⟨q, hq⟩ := much_ok l hl hs
  apply fn_ok
  conv => whnf
  refine callK0 (by kernel_rfl) rfl rfl (by rfl) hawake rfl ?_
  conv => whnf
  refine callK0 (by kernel_rfl) rfl rfl (by rfl) hq rfl ?_
  conv => whnf
  refine br_case (fun g => ?_) (fun g => ?_) <;> (try rw [g])
  · conv => whnf
    exact ends (by rfl) rfl
  conv => whnf
  refine loop_ind pr0 np0 mo0 (fun i : Nat => ⟨tmps [(0, .ext (cdsC l) l.length), (3, vb true), (4, vi i)], []⟩) (fun i => l.length - i) (fun i => i ≤ l.length) ?_ 0 (Nat.zero_le _)
    (cln_ns [] (by decide) (fun i hi => absurd hi (Nat.not_lt_zero i)) trivial ⟨⟨rfl, rfl⟩, ⟨rfl, rfl⟩, ⟨rfl, rfl⟩, trivial⟩)
  intro i hi
  conv => whnf
  refine br_case (fun g => ?_) (fun g => ?_) <;> (try rw [g])
  · have gq : (i : Int) < (l.length : Nat) := of_decide_eq_true g
    have hlt : i < l.length := by omega
    obtain ⟨c, hx⟩ : ∃ c, l[i]? = some c := ⟨_, List.getElem?_eq_getElem hlt⟩
    obtain ⟨k1, k2, k3, k4⟩ := hs c (List.mem_of_getElem? hx)
    obtain ⟨z, ty, hch, hz⟩ := check_ok c k4 (by omega) (by omega) (by omega)
    obtain ⟨z', ty', hrc, hz'⟩ := rcheck_ok c k4 (by omega) (by omega) (by omega)
    have hKl := chkS_len c
    generalize hp : chkS c = p at *
    obtain ⟨K, A, e⟩ := p
    simp only at hch hrc hz hz' hKl
    have hK : idsL (K.map vi) = [] := idsL_none vi (fun _ => rfl) K
    have hlz : ∀ z ty, ksR K z ty → K.length * z = (K.map vi).length := by
      intro z ty h
      rw [List.length_map]
      rcases h with rfl | ⟨h0, _⟩
      · exact Nat.mul_one _
      · rw [h0, Nat.zero_mul]
    conv => whnf
    refine br_case (fun g4 => ?_) (fun g4 => absurd (show (0 : Int) ≤ i ∧ (i : Int) < (l.length : Nat) from ⟨by omega, by omega⟩) (of_decide_eq_false g4))
    conv => whnf
    generalize hq : List.take _ (List.drop _ (List.drop _ _)) = q
    obtain rfl : q = cdC c := hq.symm.trans (take_c (f := cdC) (z := 3) (fun _ => rfl) hx)
    clear hq
    conv => whnf
    refine callK0f (by kernel_rfl) rfl rfl (by rfl) (copied_ok c k1 k2 k3) rfl (fun q hq => ?_) ?_
    · simp only [copiedR, List.mem_cons, List.not_mem_nil, or_false] at hq
      rcases hq with rfl | rfl | rfl
      · exact idsCols _
      · exact idsInss _
      · exact idsOts _
    conv => whnf
    refine callK0f (us := [0, 1, 2]) (args' := [.agg (cdC c)]) (by kernel_rfl) rfl (reach3 (a := 0) (b := 1) (c := 2) (q := ⟨colsC c.inn, .is 57, true⟩) (p := ⟨inssC c.ops, .is 55, true⟩) (s := ⟨otsC c.out, .is 59, true⟩) rfl rfl rfl (idsCols _) (idsInss _) (idsOts _) (by decide))
      (mapO_cons (passV_agg (mapO_cons (passV_sl (r := ⟨colsC c.inn, .is 57, true⟩) rfl rfl (getCells_all _ _ (colsL _).symm) (plainCols _)) (mapO_cons (passV_sl (r := ⟨inssC c.ops, .is 55, true⟩) rfl rfl (getCells_all _ _ (inssL _).symm) (plainInss _)) (mapO_cons (passV_sl (r := ⟨otsC c.out, .is 59, true⟩) rfl rfl (getCells_all _ _ (otsL _).symm) (plainOts _)) rfl)))) rfl) hch
      (by rw [Bool.or_eq_true]; refine .inr ?_; show (true && (noExtL (K.map vi) && true)) = true; rw [noExtL_map vi (fun _ => rfl) K]; rfl) (fun q hq => by
        simp only [List.mem_cons, List.not_mem_nil, or_false] at hq
        subst hq
        exact hK) ?_
    conv => whnf
    refine br_case (fun g5 => ?_) (fun g5 => absurd (show (0 : Int) ≤ i ∧ (i : Int) < (l.length : Nat) from ⟨by omega, by omega⟩) (of_decide_eq_false g5))
    conv => whnf
    generalize hq : List.take _ (List.drop _ (List.drop _ _)) = q
    obtain rfl : q = cdC c := hq.symm.trans (take_c (f := cdC) (z := 3) (fun _ => rfl) hx)
    clear hq
    conv => whnf
    refine callK0f (by kernel_rfl) rfl rfl (by rfl) hrc rfl (fun q hq => by
        simp only [List.mem_cons, List.not_mem_nil, or_false] at hq
        subst hq
        exact hK) ?_
    conv => whnf
    refine br_case (fun g6 => ?_) (fun g6 => absurd (show (A == A) = true by simp) (by rw [show (A == A) = false from g6]; decide)) <;> (try rw [g6])
    conv => whnf
    refine br_case (fun g7 => ?_) (fun g7 => absurd (show (e == e) = true by simp) (by rw [show (e == e) = false from g7]; decide)) <;> (try rw [g7])
    conv => whnf
    refine callK0 (us := [3, 4]) (args' := [.ext (K.map vi) K.length, .ext (K.map vi) K.length]) (by kernel_rfl) rfl (reach2 (a := 3) (b := 4) (q := ⟨K.map vi, ty, true⟩) (p := ⟨K.map vi, ty', true⟩) rfl rfl hK hK (by decide))
      (mapO_cons (passV_sl (r := ⟨K.map vi, ty, true⟩) rfl rfl (getCells_all _ _ (hlz z ty hz)) (plainL_map vi (fun _ => rfl) K)) (mapO_cons (passV_sl (r := ⟨K.map vi, ty', true⟩) rfl rfl (getCells_all _ _ (hlz z' ty' hz')) (plainL_map vi (fun _ => rfl) K)) rfl)) (ints_ok K K (by omega)) rfl ?_
    conv => whnf
    exact ⟨i + 1, ⟨hlt, by omega⟩, cln_ns [] (by decide) (fun i hi => absurd hi (Nat.not_lt_zero i)) trivial ⟨⟨rfl, rfl⟩, ⟨congrArg vb (decide_eq_true rfl), rfl⟩, ⟨congrArg vi (w64 (n := (i : Int) + 1) (by omega) (by omega)), rfl⟩, trivial⟩⟩
  · conv => whnf
    exact ends (by rfl) rfl
end Go.AI
