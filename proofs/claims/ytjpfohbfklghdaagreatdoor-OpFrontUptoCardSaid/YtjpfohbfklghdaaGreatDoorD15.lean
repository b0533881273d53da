/-
  ref15.made: the kind of an instruction's value. Conditions: those that each theorem lists (lengths far below the greatest).
-/
import Derived.Test.YtjpfohbfklghdaaGreatDoorD14
set_option linter.all false
set_option linter.unusedVariables false
set_option maxRecDepth 100000
namespace Go.AI
open Go.Proofs
attribute [local irreducible] callK leave validU validS fromS toS atS bareS mkS

theorem toS_zero {b : Int} (h : fromS b = 0) : toS b = 0 := by
  by_cases hb : 1 ≤ b ∧ b ≤ 12
  · exfalso
    rw [fromS, if_pos hb] at h
    have : ∀ m : Nat, m < 12 → fromL.getD m 0 ≠ 0 := by decide
    exact this _ (by omega) h
  · rw [toS, if_neg hb]

set_option maxHeartbeats 8000000 in
theorem made_1 (inn : List Col) (ks : List Int) (a b : Int) (sep : ByteArray) (v : Vl) (hs : sep.size < 4611686018427387904) (hv : v.s.size < 4611686018427387904) :
    FnOk E0 64 [.agg (insC ⟨1, a, b, sep, v⟩), .ext (colsC inn) inn.length, .ext (ks.map vi) ks.length] [] (vi ((mkS inn ks ⟨1, a, b, sep, v⟩).getD 0)) [] := by
  apply fn_ok
  conv => whnf
  refine callK0 (by kernel_rfl) rfl rfl (by rfl) (bare_1 a b sep v) rfl ?_
  conv => whnf
  refine callK0 (by kernel_rfl) rfl rfl (by rfl) (rvalid_ok sep hs) rfl ?_
  conv => whnf
  refine br_case (fun g0 => ?_) (fun g0 => ?_) <;> (try rw [g0])
  · have g0q : (!bareS ⟨1, a, b, sep, v⟩) = true := g0
    conv => whnf
    have hbare : bareS ⟨1, a, b, sep, v⟩ = false := by simpa using g0q
    refine ends (by rfl) ?_
    exact congrArg vi (show 0 = (mkS inn ks ⟨1, a, b, sep, v⟩).getD 0 by rw [mkS_bad hbare]; all_goals rfl)
  · have g0q : (!bareS ⟨1, a, b, sep, v⟩) = false := g0
    conv => whnf
    have hbare : bareS ⟨1, a, b, sep, v⟩ = true := by simpa using g0q
    refine br_case (fun g1 => ?_) (fun g1 => ?_) <;> (try rw [g1])
    · have g1q : a ≥ 0 := of_decide_eq_true g1
      conv => whnf
      refine br_case (fun g2 => ?_) (fun g2 => ?_) <;> (try rw [g2])
      · have g2q : a < (inn.length : Nat) := of_decide_eq_true g2
        conv => whnf
        obtain ⟨x, hx⟩ : ∃ x, inn[a.toNat]? = some x := ⟨_, List.getElem?_eq_getElem (by omega)⟩
        refine br_case (fun g3 => ?_) (fun g3 => absurd (show 0 ≤ a ∧ a < (inn.length : Nat) from ⟨by omega, by omega⟩) (of_decide_eq_false g3))
        conv => whnf
        generalize hq : (List.drop _ _)[0]? = q
        obtain rfl : q = some (vi x.kind) := hq.symm.trans (at_c' (f := colC) (z := 3) (fun _ => rfl) hx 2 (by decide))
        clear hq
        conv => whnf
        refine ends (by rfl) ?_
        exact congrArg vi (show x.kind = (mkS inn ks ⟨1, a, b, sep, v⟩).getD 0 by rw [mkS1 hbare, if_pos ⟨by omega, by omega⟩, hx]; all_goals rfl)
      · have g2q : ¬ a < (inn.length : Nat) := of_decide_eq_false g2
        conv => whnf
        refine ends (by rfl) ?_
        exact congrArg vi (show 0 = (mkS inn ks ⟨1, a, b, sep, v⟩).getD 0 by rw [mkS1 hbare, if_neg (by omega)]; all_goals rfl)
    · have g1q : ¬ a ≥ 0 := of_decide_eq_false g1
      conv => whnf
      refine ends (by rfl) ?_
      exact congrArg vi (show 0 = (mkS inn ks ⟨1, a, b, sep, v⟩).getD 0 by rw [mkS1 hbare, if_neg (by omega)]; all_goals rfl)

set_option maxHeartbeats 8000000 in
theorem made_2 (inn : List Col) (ks : List Int) (a b : Int) (sep : ByteArray) (v : Vl) (hs : sep.size < 4611686018427387904) (hv : v.s.size < 4611686018427387904) :
    FnOk E0 64 [.agg (insC ⟨2, a, b, sep, v⟩), .ext (colsC inn) inn.length, .ext (ks.map vi) ks.length] [] (vi ((mkS inn ks ⟨2, a, b, sep, v⟩).getD 0)) [] := by
  apply fn_ok
  conv => whnf
  refine callK0 (by kernel_rfl) rfl rfl (by rfl) (bare_2 a b sep v) rfl ?_
  conv => whnf
  refine callK0 (by kernel_rfl) rfl rfl (by rfl) (rvalid_ok sep hs) rfl ?_
  conv => whnf
  refine br_case (fun g0 => ?_) (fun g0 => ?_) <;> (try rw [g0])
  · have g0q : (!bareS ⟨2, a, b, sep, v⟩) = true := g0
    conv => whnf
    have hbare : bareS ⟨2, a, b, sep, v⟩ = false := by simpa using g0q
    refine ends (by rfl) ?_
    exact congrArg vi (show 0 = (mkS inn ks ⟨2, a, b, sep, v⟩).getD 0 by rw [mkS_bad hbare]; all_goals rfl)
  · have g0q : (!bareS ⟨2, a, b, sep, v⟩) = false := g0
    conv => whnf
    have hbare : bareS ⟨2, a, b, sep, v⟩ = true := by simpa using g0q
    refine callK0 (by kernel_rfl) rfl rfl (by rfl) (rkvalid_ok v hv) rfl ?_
    conv => whnf
    refine br_case (fun g1 => ?_) (fun g1 => ?_) <;> (try rw [g1])
    · have g1q : validS v = true := g1
      conv => whnf
      refine ends (by rfl) ?_
      exact congrArg vi (show v.kind = (mkS inn ks ⟨2, a, b, sep, v⟩).getD 0 by rw [mkS2 hbare, if_pos g1q]; all_goals rfl)
    · have g1q : validS v = false := g1
      conv => whnf
      refine ends (by rfl) ?_
      exact congrArg vi (show 0 = (mkS inn ks ⟨2, a, b, sep, v⟩).getD 0 by rw [mkS2 hbare, if_neg (by rw [g1q]; decide)]; all_goals rfl)

set_option maxHeartbeats 8000000 in
theorem made_3 (inn : List Col) (ks : List Int) (a b : Int) (sep : ByteArray) (v : Vl) (hs : sep.size < 4611686018427387904) (hv : v.s.size < 4611686018427387904) :
    FnOk E0 64 [.agg (insC ⟨3, a, b, sep, v⟩), .ext (colsC inn) inn.length, .ext (ks.map vi) ks.length] [] (vi ((mkS inn ks ⟨3, a, b, sep, v⟩).getD 0)) [] := by
  apply fn_ok
  conv => whnf
  refine callK0 (by kernel_rfl) rfl rfl (by rfl) (bare_3 a b sep v) rfl ?_
  conv => whnf
  refine callK0 (by kernel_rfl) rfl rfl (by rfl) (rvalid_ok sep hs) rfl ?_
  conv => whnf
  refine br_case (fun g0 => ?_) (fun g0 => ?_) <;> (try rw [g0])
  · have g0q : (!bareS ⟨3, a, b, sep, v⟩) = true := g0
    conv => whnf
    have hbare : bareS ⟨3, a, b, sep, v⟩ = false := by simpa using g0q
    refine ends (by rfl) ?_
    exact congrArg vi (show 0 = (mkS inn ks ⟨3, a, b, sep, v⟩).getD 0 by rw [mkS_bad hbare]; all_goals rfl)
  · have g0q : (!bareS ⟨3, a, b, sep, v⟩) = false := g0
    conv => whnf
    have hbare : bareS ⟨3, a, b, sep, v⟩ = true := by simpa using g0q
    refine br_case (fun g1 => ?_) (fun g1 => ?_) <;> (try rw [g1])
    · have g1q : a ≥ 0 := of_decide_eq_true g1
      conv => whnf
      refine br_case (fun g2 => ?_) (fun g2 => ?_) <;> (try rw [g2])
      · have g2q : a < (ks.length : Nat) := of_decide_eq_true g2
        conv => whnf
        refine callK0 (by kernel_rfl) rfl rfl (by rfl) (rfrom_ok b) rfl ?_
        conv => whnf
        obtain ⟨x, hx⟩ : ∃ x, ks[a.toNat]? = some x := ⟨_, List.getElem?_eq_getElem (by omega)⟩
        have hat : atS ks a = x := atS_of (by omega) hx
        refine br_case (fun g3 => ?_) (fun g3 => absurd (show 0 ≤ a ∧ a < (ks.length : Nat) from ⟨by omega, by omega⟩) (of_decide_eq_false g3))
        conv => whnf
        generalize hq : (List.drop _ _)[0]? = q
        obtain rfl : q = some (vi x) := hq.symm.trans (at_vi' hx)
        clear hq
        conv => whnf
        refine br_case (fun g4 => ?_) (fun g4 => ?_) <;> (try rw [g4])
        · have g4q : (fromS b == x) = true := g4
          conv => whnf
          refine callK0 (by kernel_rfl) rfl rfl (by rfl) (rto_ok b) rfl ?_
          conv => whnf
          refine ends (by rfl) ?_
          have hfx : fromS b = x := by simpa using g4q
          refine congrArg vi (show toS b = (mkS inn ks ⟨3, a, b, sep, v⟩).getD 0 from ?_)
          rw [mkS3 hbare]
          by_cases hf : fromS b = 0
          · rw [if_neg (by simp [hf]), Option.getD_none]
            exact toS_zero hf
          · rw [if_pos ⟨hf, by rw [hat, hfx]⟩]; rfl
        · have g4q : (fromS b == x) = false := g4
          conv => whnf
          refine ends (by rfl) ?_
          exact congrArg vi (show 0 = (mkS inn ks ⟨3, a, b, sep, v⟩).getD 0 by rw [mkS3 hbare, if_neg (fun e => by rw [hat] at e; rw [e.2] at g4q; simp at g4q)]; all_goals rfl)
      · have g2q : ¬ a < (ks.length : Nat) := of_decide_eq_false g2
        conv => whnf
        refine ends (by rfl) ?_
        exact congrArg vi (show 0 = (mkS inn ks ⟨3, a, b, sep, v⟩).getD 0 by rw [mkS3 hbare, if_neg (fun e => by rw [atS_out (by omega)] at e; exact e.1 e.2.symm)]; all_goals rfl)
    · have g1q : ¬ a ≥ 0 := of_decide_eq_false g1
      conv => whnf
      refine ends (by rfl) ?_
      exact congrArg vi (show 0 = (mkS inn ks ⟨3, a, b, sep, v⟩).getD 0 by rw [mkS3 hbare, if_neg (fun e => by rw [atS_out (by omega)] at e; exact e.1 e.2.symm)]; all_goals rfl)

set_option maxHeartbeats 8000000 in
theorem made_4 (inn : List Col) (ks : List Int) (a b : Int) (sep : ByteArray) (v : Vl) (hs : sep.size < 4611686018427387904) (hv : v.s.size < 4611686018427387904) :
    FnOk E0 64 [.agg (insC ⟨4, a, b, sep, v⟩), .ext (colsC inn) inn.length, .ext (ks.map vi) ks.length] [] (vi ((mkS inn ks ⟨4, a, b, sep, v⟩).getD 0)) [] := by
  apply fn_ok
  conv => whnf
  refine callK0 (by kernel_rfl) rfl rfl (by rfl) (bare_4 a b sep v) rfl ?_
  conv => whnf
  refine callK0 (by kernel_rfl) rfl rfl (by rfl) (rvalid_ok sep hs) rfl ?_
  conv => whnf
  refine br_case (fun g0 => ?_) (fun g0 => ?_) <;> (try rw [g0])
  · have g0q : (!bareS ⟨4, a, b, sep, v⟩) = true := g0
    conv => whnf
    have hbare : bareS ⟨4, a, b, sep, v⟩ = false := by simpa using g0q
    refine ends (by rfl) ?_
    exact congrArg vi (show 0 = (mkS inn ks ⟨4, a, b, sep, v⟩).getD 0 by rw [mkS_bad hbare]; all_goals rfl)
  · have g0q : (!bareS ⟨4, a, b, sep, v⟩) = false := g0
    conv => whnf
    have hbare : bareS ⟨4, a, b, sep, v⟩ = true := by simpa using g0q
    refine callK0 (by kernel_rfl) rfl rfl (by rfl) (rtext_ok ks a) rfl ?_
    conv => whnf
    refine br_case (fun g1 => ?_) (fun g1 => ?_) <;> (try rw [g1])
    · have g1q : (atS ks a == 4) = true := g1
      conv => whnf
      refine br_case (fun g2 => ?_) (fun g2 => ?_) <;> (try rw [g2])
      · have g2q : validU sep = true := g2
        conv => whnf
        refine br_case (fun g3 => ?_) (fun g3 => ?_) <;> (try rw [g3])
        · have g3q : (!eB sep) = true := g3
          conv => whnf
          refine ends (by rfl) ?_
          exact congrArg vi (show 4 = (mkS inn ks ⟨4, a, b, sep, v⟩).getD 0 by rw [mkS4 hbare, if_pos ⟨by simpa using g1q, by simpa using g3q, g2q⟩]; all_goals rfl)
        · have g3q : (!eB sep) = false := g3
          conv => whnf
          refine ends (by rfl) ?_
          exact congrArg vi (show 0 = (mkS inn ks ⟨4, a, b, sep, v⟩).getD 0 by rw [mkS4 hbare, if_neg (fun e => by rw [e.2.1] at g3q; simp at g3q)]; all_goals rfl)
      · have g2q : validU sep = false := g2
        conv => whnf
        refine ends (by rfl) ?_
        exact congrArg vi (show 0 = (mkS inn ks ⟨4, a, b, sep, v⟩).getD 0 by rw [mkS4 hbare, if_neg (fun e => by rw [e.2.2] at g2q; simp at g2q)]; all_goals rfl)
    · have g1q : (atS ks a == 4) = false := g1
      conv => whnf
      refine ends (by rfl) ?_
      exact congrArg vi (show 0 = (mkS inn ks ⟨4, a, b, sep, v⟩).getD 0 by rw [mkS4 hbare, if_neg (fun e => by rw [e.1] at g1q; simp at g1q)]; all_goals rfl)

set_option maxHeartbeats 8000000 in
theorem made_5 (inn : List Col) (ks : List Int) (a b : Int) (sep : ByteArray) (v : Vl) (hs : sep.size < 4611686018427387904) (hv : v.s.size < 4611686018427387904) :
    FnOk E0 64 [.agg (insC ⟨5, a, b, sep, v⟩), .ext (colsC inn) inn.length, .ext (ks.map vi) ks.length] [] (vi ((mkS inn ks ⟨5, a, b, sep, v⟩).getD 0)) [] := by
  apply fn_ok
  conv => whnf
  refine callK0 (by kernel_rfl) rfl rfl (by rfl) (bare_5 a b sep v) rfl ?_
  conv => whnf
  refine callK0 (by kernel_rfl) rfl rfl (by rfl) (rvalid_ok sep hs) rfl ?_
  conv => whnf
  refine br_case (fun g0 => ?_) (fun g0 => ?_) <;> (try rw [g0])
  · have g0q : (!bareS ⟨5, a, b, sep, v⟩) = true := g0
    conv => whnf
    have hbare : bareS ⟨5, a, b, sep, v⟩ = false := by simpa using g0q
    refine ends (by rfl) ?_
    exact congrArg vi (show 0 = (mkS inn ks ⟨5, a, b, sep, v⟩).getD 0 by rw [mkS_bad hbare]; all_goals rfl)
  · have g0q : (!bareS ⟨5, a, b, sep, v⟩) = false := g0
    conv => whnf
    have hbare : bareS ⟨5, a, b, sep, v⟩ = true := by simpa using g0q
    refine callK0 (by kernel_rfl) rfl rfl (by rfl) (rtext_ok ks a) rfl ?_
    conv => whnf
    refine br_case (fun g1 => ?_) (fun g1 => ?_) <;> (try rw [g1])
    · have g1q : (atS ks a == 4) = true := g1
      conv => whnf
      refine br_case (fun g2 => ?_) (fun g2 => ?_) <;> (try rw [g2])
      · have g2q : validU sep = true := g2
        conv => whnf
        refine br_case (fun g3 => ?_) (fun g3 => ?_) <;> (try rw [g3])
        · have g3q : (!eB sep) = true := g3
          conv => whnf
          refine ends (by rfl) ?_
          exact congrArg vi (show 4 = (mkS inn ks ⟨5, a, b, sep, v⟩).getD 0 by rw [mkS5 hbare, if_pos ⟨by simpa using g1q, by simpa using g3q, g2q⟩]; all_goals rfl)
        · have g3q : (!eB sep) = false := g3
          conv => whnf
          refine ends (by rfl) ?_
          exact congrArg vi (show 0 = (mkS inn ks ⟨5, a, b, sep, v⟩).getD 0 by rw [mkS5 hbare, if_neg (fun e => by rw [e.2.1] at g3q; simp at g3q)]; all_goals rfl)
      · have g2q : validU sep = false := g2
        conv => whnf
        refine ends (by rfl) ?_
        exact congrArg vi (show 0 = (mkS inn ks ⟨5, a, b, sep, v⟩).getD 0 by rw [mkS5 hbare, if_neg (fun e => by rw [e.2.2] at g2q; simp at g2q)]; all_goals rfl)
    · have g1q : (atS ks a == 4) = false := g1
      conv => whnf
      refine ends (by rfl) ?_
      exact congrArg vi (show 0 = (mkS inn ks ⟨5, a, b, sep, v⟩).getD 0 by rw [mkS5 hbare, if_neg (fun e => by rw [e.1] at g1q; simp at g1q)]; all_goals rfl)

set_option maxHeartbeats 8000000 in
theorem made_6 (inn : List Col) (ks : List Int) (a b : Int) (sep : ByteArray) (v : Vl) (hs : sep.size < 4611686018427387904) (hv : v.s.size < 4611686018427387904) :
    FnOk E0 64 [.agg (insC ⟨6, a, b, sep, v⟩), .ext (colsC inn) inn.length, .ext (ks.map vi) ks.length] [] (vi ((mkS inn ks ⟨6, a, b, sep, v⟩).getD 0)) [] := by
  apply fn_ok
  conv => whnf
  refine callK0 (by kernel_rfl) rfl rfl (by rfl) (bare_6 a b sep v) rfl ?_
  conv => whnf
  refine callK0 (by kernel_rfl) rfl rfl (by rfl) (rvalid_ok sep hs) rfl ?_
  conv => whnf
  refine br_case (fun g0 => ?_) (fun g0 => ?_) <;> (try rw [g0])
  · have g0q : (!bareS ⟨6, a, b, sep, v⟩) = true := g0
    conv => whnf
    have hbare : bareS ⟨6, a, b, sep, v⟩ = false := by simpa using g0q
    refine ends (by rfl) ?_
    exact congrArg vi (show 0 = (mkS inn ks ⟨6, a, b, sep, v⟩).getD 0 by rw [mkS_bad hbare]; all_goals rfl)
  · have g0q : (!bareS ⟨6, a, b, sep, v⟩) = false := g0
    conv => whnf
    have hbare : bareS ⟨6, a, b, sep, v⟩ = true := by simpa using g0q
    refine callK0 (by kernel_rfl) rfl rfl (by rfl) (rtext_ok ks a) rfl ?_
    conv => whnf
    refine br_case (fun g1 => ?_) (fun g1 => ?_) <;> (try rw [g1])
    · have g1q : (atS ks a == 4) = true := g1
      conv => whnf
      refine callK0 (by kernel_rfl) rfl rfl (by rfl) (rtext_ok ks b) rfl ?_
      conv => whnf
      refine br_case (fun g2 => ?_) (fun g2 => ?_) <;> (try rw [g2])
      · have g2q : (atS ks b == 4) = true := g2
        conv => whnf
        refine br_case (fun g3 => ?_) (fun g3 => ?_) <;> (try rw [g3])
        · have g3q : validU sep = true := g3
          conv => whnf
          refine ends (by rfl) ?_
          exact congrArg vi (show 4 = (mkS inn ks ⟨6, a, b, sep, v⟩).getD 0 by rw [mkS6 hbare, if_pos ⟨by simpa using g1q, by simpa using g2q, g3q⟩]; all_goals rfl)
        · have g3q : validU sep = false := g3
          conv => whnf
          refine ends (by rfl) ?_
          exact congrArg vi (show 0 = (mkS inn ks ⟨6, a, b, sep, v⟩).getD 0 by rw [mkS6 hbare, if_neg (fun e => by rw [e.2.2] at g3q; simp at g3q)]; all_goals rfl)
      · have g2q : (atS ks b == 4) = false := g2
        conv => whnf
        refine ends (by rfl) ?_
        exact congrArg vi (show 0 = (mkS inn ks ⟨6, a, b, sep, v⟩).getD 0 by rw [mkS6 hbare, if_neg (fun e => by rw [e.2.1] at g2q; simp at g2q)]; all_goals rfl)
    · have g1q : (atS ks a == 4) = false := g1
      conv => whnf
      refine ends (by rfl) ?_
      exact congrArg vi (show 0 = (mkS inn ks ⟨6, a, b, sep, v⟩).getD 0 by rw [mkS6 hbare, if_neg (fun e => by rw [e.1] at g1q; simp at g1q)]; all_goals rfl)

/-- A word that is none. -/
theorem made_none (inn : List Col) (ks : List Int) (o : Ins) (hw : o.word < 1 ∨ o.word ≥ 7) (hs : o.sep.size < 4611686018427387904) :
    FnOk E0 64 [.agg (insC o), .ext (colsC inn) inn.length, .ext (ks.map vi) ks.length] [] (vi 0) [] := by
  obtain ⟨q, hq⟩ := bare_none o hw
  apply fn_ok
  conv => whnf
  refine callK0 (by kernel_rfl) rfl rfl (by rfl) hq rfl ?_
  conv => whnf
  refine callK0 (by kernel_rfl) rfl rfl (by rfl) (rvalid_ok o.sep hs) rfl ?_
  conv => whnf
  refine br_case (fun g0 => ?_) (fun g0 => ?_) <;> (try rw [g0])
  · conv => whnf
    refine ends (by rfl) ?_
    rfl
  conv => whnf
  refine br_case (fun g1 => ?_) (fun g1 => ?_) <;> (try rw [g1])
  · conv => whnf
    refine ends (by rfl) ?_
    rfl
  have g1q : ¬ o.word < 1 := of_decide_eq_false g1
  conv => whnf
  refine br_case (fun g2 => ?_) (fun g2 => absurd (show o.word > 6 by omega) (of_decide_eq_false g2))
  conv => whnf
  refine ends (by rfl) ?_
  rfl

/-- ref15.made -/
theorem made_ok (inn : List Col) (ks : List Int) (o : Ins) (hs : o.sep.size < 4611686018427387904) (hv : o.val.s.size < 4611686018427387904) :
    FnOk E0 64 [.agg (insC o), .ext (colsC inn) inn.length, .ext (ks.map vi) ks.length] [] (vi ((mkS inn ks o).getD 0)) [] := by
  by_cases hw : o.word < 1 ∨ o.word ≥ 7
  · have hm : mkS inn ks o = none := by
      rw [mkS]
      split
      · rfl
      rw [if_neg (by omega), if_neg (by omega), if_neg (by omega), if_neg (by omega), if_neg (by omega)]
    rw [hm]
    exact made_none inn ks o hw hs
  obtain ⟨w, a, b, sep, v⟩ := o
  have : w = 1 ∨ w = 2 ∨ w = 3 ∨ w = 4 ∨ w = 5 ∨ w = 6 := by simp only at hw; omega
  rcases this with rfl | rfl | rfl | rfl | rfl | rfl
  · exact made_1 inn ks a b sep v hs hv
  · exact made_2 inn ks a b sep v hs hv
  · exact made_3 inn ks a b sep v hs hv
  · exact made_4 inn ks a b sep v hs hv
  · exact made_5 inn ks a b sep v hs hv
  · exact made_6 inn ks a b sep v hs hv
end Go.AI
