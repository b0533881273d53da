/-
  ref15.bare: nothing in the fields that the word doesn't have. Conditions: those that each theorem lists (lengths far below the greatest).
-/
import Derived.Test.YtjpfohbfklghdaaGreatDoorD13
set_option linter.all false
set_option linter.unusedVariables false
set_option maxRecDepth 100000
namespace Go.AI
open Go.Proofs
attribute [local irreducible] callK leave validU validS fromS toS atS bareS

theorem bare_1 (a b : Int) (sep : ByteArray) (v : Vl) : FnOk E0 109 [.agg (insC ⟨1, a, b, sep, v⟩)] [] (vb (bareS ⟨1, a, b, sep, v⟩)) [] := by
  apply fn_ok
  conv => whnf
  refine br_case (fun hb => ?_) (fun hb => ?_) <;> (try rw [hb])
  · have hbq : (b == 0) = true := hb
    conv => whnf
    refine br_case (fun hc => ?_) (fun hc => ?_) <;> (try rw [hc])
    · have hcq : eB sep = true := hc
      conv => whnf
      rw [eqG53]
      conv => whnf
      refine br_case (fun hk => ?_) (fun hk => ?_) <;> (try rw [hk])
      · have hkq : (v.kind == 0) = true := hk
        conv => whnf
        refine br_case (fun hn => ?_) (fun hn => ?_) <;> (try rw [hn])
        · have hnq : (v.n == 0) = true := hn
          conv => whnf
          refine br_case (fun he => ?_) (fun he => ?_) <;> (try rw [he])
          · have heq : eB v.s = true := he
            conv => whnf
            refine ends (by rfl) ?_
            exact congrArg vb (show true = bareS ⟨1, a, b, sep, v⟩ by rw [bare1, hbq, hcq, vz0 hkq hnq heq]; all_goals simp)
          · have heq : eB v.s = false := he
            conv => whnf
            refine ends (by rfl) ?_
            exact congrArg vb (show false = bareS ⟨1, a, b, sep, v⟩ by rw [bare1, vz3 heq]; all_goals simp)
        · have hnq : (v.n == 0) = false := hn
          conv => whnf
          refine ends (by rfl) ?_
          exact congrArg vb (show false = bareS ⟨1, a, b, sep, v⟩ by rw [bare1, vz2 hnq]; all_goals simp)
      · have hkq : (v.kind == 0) = false := hk
        conv => whnf
        refine ends (by rfl) ?_
        exact congrArg vb (show false = bareS ⟨1, a, b, sep, v⟩ by rw [bare1, vz1 hkq]; all_goals simp)
    · have hcq : eB sep = false := hc
      conv => whnf
      refine ends (by rfl) ?_
      exact congrArg vb (show false = bareS ⟨1, a, b, sep, v⟩ by rw [bare1, hcq]; all_goals simp)
  · have hbq : (b == 0) = false := hb
    conv => whnf
    refine ends (by rfl) ?_
    exact congrArg vb (show false = bareS ⟨1, a, b, sep, v⟩ by rw [bare1, hbq]; all_goals simp)

theorem bare_2 (a b : Int) (sep : ByteArray) (v : Vl) : FnOk E0 109 [.agg (insC ⟨2, a, b, sep, v⟩)] [] (vb (bareS ⟨2, a, b, sep, v⟩)) [] := by
  apply fn_ok
  conv => whnf
  refine br_case (fun ha => ?_) (fun ha => ?_) <;> (try rw [ha])
  · have haq : (a == 0) = true := ha
    conv => whnf
    refine br_case (fun hb => ?_) (fun hb => ?_) <;> (try rw [hb])
    · have hbq : (b == 0) = true := hb
      conv => whnf
      refine br_case (fun hc => ?_) (fun hc => ?_) <;> (try rw [hc])
      · have hcq : eB sep = true := hc
        conv => whnf
        refine ends (by rfl) ?_
        exact congrArg vb (show true = bareS ⟨2, a, b, sep, v⟩ by rw [bare2, haq, hbq, hcq]; all_goals simp)
      · have hcq : eB sep = false := hc
        conv => whnf
        refine ends (by rfl) ?_
        exact congrArg vb (show false = bareS ⟨2, a, b, sep, v⟩ by rw [bare2, hcq]; all_goals simp)
    · have hbq : (b == 0) = false := hb
      conv => whnf
      refine ends (by rfl) ?_
      exact congrArg vb (show false = bareS ⟨2, a, b, sep, v⟩ by rw [bare2, hbq]; all_goals simp)
  · have haq : (a == 0) = false := ha
    conv => whnf
    refine ends (by rfl) ?_
    exact congrArg vb (show false = bareS ⟨2, a, b, sep, v⟩ by rw [bare2, haq]; all_goals simp)

theorem bare_3 (a b : Int) (sep : ByteArray) (v : Vl) : FnOk E0 109 [.agg (insC ⟨3, a, b, sep, v⟩)] [] (vb (bareS ⟨3, a, b, sep, v⟩)) [] := by
  apply fn_ok
  conv => whnf
  refine br_case (fun hc => ?_) (fun hc => ?_) <;> (try rw [hc])
  · have hcq : eB sep = true := hc
    conv => whnf
    rw [eqG53]
    conv => whnf
    refine br_case (fun hk => ?_) (fun hk => ?_) <;> (try rw [hk])
    · have hkq : (v.kind == 0) = true := hk
      conv => whnf
      refine br_case (fun hn => ?_) (fun hn => ?_) <;> (try rw [hn])
      · have hnq : (v.n == 0) = true := hn
        conv => whnf
        refine br_case (fun he => ?_) (fun he => ?_) <;> (try rw [he])
        · have heq : eB v.s = true := he
          conv => whnf
          refine ends (by rfl) ?_
          exact congrArg vb (show true = bareS ⟨3, a, b, sep, v⟩ by rw [bare3, hcq, vz0 hkq hnq heq]; all_goals simp)
        · have heq : eB v.s = false := he
          conv => whnf
          refine ends (by rfl) ?_
          exact congrArg vb (show false = bareS ⟨3, a, b, sep, v⟩ by rw [bare3, vz3 heq]; all_goals simp)
      · have hnq : (v.n == 0) = false := hn
        conv => whnf
        refine ends (by rfl) ?_
        exact congrArg vb (show false = bareS ⟨3, a, b, sep, v⟩ by rw [bare3, vz2 hnq]; all_goals simp)
    · have hkq : (v.kind == 0) = false := hk
      conv => whnf
      refine ends (by rfl) ?_
      exact congrArg vb (show false = bareS ⟨3, a, b, sep, v⟩ by rw [bare3, vz1 hkq]; all_goals simp)
  · have hcq : eB sep = false := hc
    conv => whnf
    refine ends (by rfl) ?_
    exact congrArg vb (show false = bareS ⟨3, a, b, sep, v⟩ by rw [bare3, hcq]; all_goals simp)

theorem bare_4 (a b : Int) (sep : ByteArray) (v : Vl) : FnOk E0 109 [.agg (insC ⟨4, a, b, sep, v⟩)] [] (vb (bareS ⟨4, a, b, sep, v⟩)) [] := by
  apply fn_ok
  conv => whnf
  refine br_case (fun hb => ?_) (fun hb => ?_) <;> (try rw [hb])
  · have hbq : (b == 0) = true := hb
    conv => whnf
    rw [eqG53]
    conv => whnf
    refine br_case (fun hk => ?_) (fun hk => ?_) <;> (try rw [hk])
    · have hkq : (v.kind == 0) = true := hk
      conv => whnf
      refine br_case (fun hn => ?_) (fun hn => ?_) <;> (try rw [hn])
      · have hnq : (v.n == 0) = true := hn
        conv => whnf
        refine br_case (fun he => ?_) (fun he => ?_) <;> (try rw [he])
        · have heq : eB v.s = true := he
          conv => whnf
          refine ends (by rfl) ?_
          exact congrArg vb (show true = bareS ⟨4, a, b, sep, v⟩ by rw [bare4, hbq, vz0 hkq hnq heq]; all_goals simp)
        · have heq : eB v.s = false := he
          conv => whnf
          refine ends (by rfl) ?_
          exact congrArg vb (show false = bareS ⟨4, a, b, sep, v⟩ by rw [bare4, vz3 heq]; all_goals simp)
      · have hnq : (v.n == 0) = false := hn
        conv => whnf
        refine ends (by rfl) ?_
        exact congrArg vb (show false = bareS ⟨4, a, b, sep, v⟩ by rw [bare4, vz2 hnq]; all_goals simp)
    · have hkq : (v.kind == 0) = false := hk
      conv => whnf
      refine ends (by rfl) ?_
      exact congrArg vb (show false = bareS ⟨4, a, b, sep, v⟩ by rw [bare4, vz1 hkq]; all_goals simp)
  · have hbq : (b == 0) = false := hb
    conv => whnf
    refine ends (by rfl) ?_
    exact congrArg vb (show false = bareS ⟨4, a, b, sep, v⟩ by rw [bare4, hbq]; all_goals simp)

theorem bare_5 (a b : Int) (sep : ByteArray) (v : Vl) : FnOk E0 109 [.agg (insC ⟨5, a, b, sep, v⟩)] [] (vb (bareS ⟨5, a, b, sep, v⟩)) [] := by
  apply fn_ok
  conv => whnf
  refine br_case (fun hb => ?_) (fun hb => ?_) <;> (try rw [hb])
  · have hbq : (b == 0) = true := hb
    conv => whnf
    rw [eqG53]
    conv => whnf
    refine br_case (fun hk => ?_) (fun hk => ?_) <;> (try rw [hk])
    · have hkq : (v.kind == 0) = true := hk
      conv => whnf
      refine br_case (fun hn => ?_) (fun hn => ?_) <;> (try rw [hn])
      · have hnq : (v.n == 0) = true := hn
        conv => whnf
        refine br_case (fun he => ?_) (fun he => ?_) <;> (try rw [he])
        · have heq : eB v.s = true := he
          conv => whnf
          refine ends (by rfl) ?_
          exact congrArg vb (show true = bareS ⟨5, a, b, sep, v⟩ by rw [bare5, hbq, vz0 hkq hnq heq]; all_goals simp)
        · have heq : eB v.s = false := he
          conv => whnf
          refine ends (by rfl) ?_
          exact congrArg vb (show false = bareS ⟨5, a, b, sep, v⟩ by rw [bare5, vz3 heq]; all_goals simp)
      · have hnq : (v.n == 0) = false := hn
        conv => whnf
        refine ends (by rfl) ?_
        exact congrArg vb (show false = bareS ⟨5, a, b, sep, v⟩ by rw [bare5, vz2 hnq]; all_goals simp)
    · have hkq : (v.kind == 0) = false := hk
      conv => whnf
      refine ends (by rfl) ?_
      exact congrArg vb (show false = bareS ⟨5, a, b, sep, v⟩ by rw [bare5, vz1 hkq]; all_goals simp)
  · have hbq : (b == 0) = false := hb
    conv => whnf
    refine ends (by rfl) ?_
    exact congrArg vb (show false = bareS ⟨5, a, b, sep, v⟩ by rw [bare5, hbq]; all_goals simp)

theorem bare_6 (a b : Int) (sep : ByteArray) (v : Vl) : FnOk E0 109 [.agg (insC ⟨6, a, b, sep, v⟩)] [] (vb (bareS ⟨6, a, b, sep, v⟩)) [] := by
  apply fn_ok
  conv => whnf
  rw [eqG53]
  conv => whnf
  refine br_case (fun hk => ?_) (fun hk => ?_) <;> (try rw [hk])
  · have hkq : (v.kind == 0) = true := hk
    conv => whnf
    refine br_case (fun hn => ?_) (fun hn => ?_) <;> (try rw [hn])
    · have hnq : (v.n == 0) = true := hn
      conv => whnf
      refine br_case (fun he => ?_) (fun he => ?_) <;> (try rw [he])
      · have heq : eB v.s = true := he
        conv => whnf
        refine ends (by rfl) ?_
        exact congrArg vb (show true = bareS ⟨6, a, b, sep, v⟩ by rw [bare6, vz0 hkq hnq heq]; all_goals simp)
      · have heq : eB v.s = false := he
        conv => whnf
        refine ends (by rfl) ?_
        exact congrArg vb (show false = bareS ⟨6, a, b, sep, v⟩ by rw [bare6, vz3 heq]; all_goals simp)
    · have hnq : (v.n == 0) = false := hn
      conv => whnf
      refine ends (by rfl) ?_
      exact congrArg vb (show false = bareS ⟨6, a, b, sep, v⟩ by rw [bare6, vz2 hnq]; all_goals simp)
  · have hkq : (v.kind == 0) = false := hk
    conv => whnf
    refine ends (by rfl) ?_
    exact congrArg vb (show false = bareS ⟨6, a, b, sep, v⟩ by rw [bare6, vz1 hkq]; all_goals simp)

/-- Of a word that is none: some answer. -/
theorem bare_none (o : Ins) (hw : o.word < 1 ∨ o.word ≥ 7) : ∃ q, FnOk E0 109 [.agg (insC o)] [] (vb q) [] := by
  suffices h : fnK E0 109 [.agg (insC o)] [] (fun r out => (∃ q, r = vb q) ∧ out = []) by
    obtain ⟨r, out, h1, ⟨q, rfl⟩, rfl⟩ := fnK_ok pr0 np0 mo0 h
    exact ⟨q, h1⟩
  conv => whnf
  refine br_case (fun g1 => absurd (show (o.word == 3) = true from g1) (by simp; omega)) (fun g1 => ?_)
  rw [g1]
  conv => whnf
  refine br_case (fun g2 => ?_) (fun g2 => absurd (show (o.word != 2) = false from g2) (by simp; omega))
  rw [g2]
  conv => whnf
  refine br_case (fun g3 => absurd (show (o.word == 6) = true from g3) (by simp; omega)) (fun g3 => ?_)
  rw [g3]
  conv => whnf
  refine br_case (fun hb => ?_) (fun hb => ?_) <;> (try rw [hb]) <;> (conv => whnf)
  · refine br_case (fun hw4 => ?_) (fun hw4 => ?_) <;> (try rw [hw4]) <;> (conv => whnf)
    · refine br_case (fun g4 => absurd (show (o.word == 2) = true from g4) (by simp; omega)) (fun g4 => ?_)
      rw [g4]
      conv => whnf
      rw [eqG53]
      conv => whnf
      refine br_case (fun hk => ?_) (fun hk => ?_) <;> (try rw [hk]) <;> (conv => whnf)
      · refine br_case (fun hn => ?_) (fun hn => ?_) <;> (try rw [hn]) <;> (conv => whnf)
        · refine br_case (fun he => ?_) (fun he => ?_) <;> (try rw [he]) <;> (conv => whnf)
          · exact bindP_of (leave0 (by rfl)) ⟨⟨_, rfl⟩, rfl⟩
          · exact bindP_of (leave0 (by rfl)) ⟨⟨_, rfl⟩, rfl⟩
        · exact bindP_of (leave0 (by rfl)) ⟨⟨_, rfl⟩, rfl⟩
      · exact bindP_of (leave0 (by rfl)) ⟨⟨_, rfl⟩, rfl⟩
    · refine br_case (fun hc => ?_) (fun hc => ?_) <;> (try rw [hc]) <;> (conv => whnf)
      · refine br_case (fun g4 => absurd (show (o.word == 2) = true from g4) (by simp; omega)) (fun g4 => ?_)
        rw [g4]
        conv => whnf
        rw [eqG53]
        conv => whnf
        refine br_case (fun hk => ?_) (fun hk => ?_) <;> (try rw [hk]) <;> (conv => whnf)
        · refine br_case (fun hn => ?_) (fun hn => ?_) <;> (try rw [hn]) <;> (conv => whnf)
          · refine br_case (fun he => ?_) (fun he => ?_) <;> (try rw [he]) <;> (conv => whnf)
            · exact bindP_of (leave0 (by rfl)) ⟨⟨_, rfl⟩, rfl⟩
            · exact bindP_of (leave0 (by rfl)) ⟨⟨_, rfl⟩, rfl⟩
          · exact bindP_of (leave0 (by rfl)) ⟨⟨_, rfl⟩, rfl⟩
        · exact bindP_of (leave0 (by rfl)) ⟨⟨_, rfl⟩, rfl⟩
      · exact bindP_of (leave0 (by rfl)) ⟨⟨_, rfl⟩, rfl⟩
  · exact bindP_of (leave0 (by rfl)) ⟨⟨_, rfl⟩, rfl⟩

end Go.AI
