/-
  op.kindOf: the kind of an instruction's value. Conditions: those that each theorem lists (lengths far below the greatest).
-/
import Derived.Test.YtjpfohbfklghdaaGreatDoorD12
set_option linter.all false
set_option linter.unusedVariables false
set_option maxRecDepth 100000
namespace Go.AI
open Go.Proofs
attribute [local irreducible] callK leave validU validS fromS toS atS

theorem eqG53 : E0.P.eqGuardType E0.P.depth 53 = false := by kernel_rfl
def kindOfR (inn : List Col) (ks : List Int) (o : Ins) (r : AV) (out : List Row) : Prop := ∃ k ok, r = .tup [vi k, vb ok] ∧ out = [] ∧ ((ok = true ∧ mkS inn ks o = some k) ∨ (ok = false ∧ mkS inn ks o = none))

def vz (v : Vl) : Bool := v.kind == 0 && v.n == 0 && eB v.s
theorem bare1 {a b : Int} {sep : ByteArray} {v : Vl} : bareS ⟨1, a, b, sep, v⟩ = (b == 0 && eB sep && vz v) := by simp [bareS, vz]
theorem bare2 {a b : Int} {sep : ByteArray} {v : Vl} : bareS ⟨2, a, b, sep, v⟩ = (a == 0 && b == 0 && eB sep) := by simp [bareS]
theorem bare3 {a b : Int} {sep : ByteArray} {v : Vl} : bareS ⟨3, a, b, sep, v⟩ = (eB sep && vz v) := by simp [bareS, vz]
theorem bare4 {a b : Int} {sep : ByteArray} {v : Vl} : bareS ⟨4, a, b, sep, v⟩ = (b == 0 && vz v) := by simp [bareS, vz]
theorem bare5 {a b : Int} {sep : ByteArray} {v : Vl} : bareS ⟨5, a, b, sep, v⟩ = (b == 0 && vz v) := by simp [bareS, vz]
theorem bare6 {a b : Int} {sep : ByteArray} {v : Vl} : bareS ⟨6, a, b, sep, v⟩ = vz v := by simp [bareS, vz]
theorem vz1 {v : Vl} (h : (v.kind == 0) = false) : vz v = false := by rw [vz, h]; rfl
theorem vz2 {v : Vl} (h : (v.n == 0) = false) : vz v = false := by rw [vz, h]; simp
theorem vz3 {v : Vl} (h : eB v.s = false) : vz v = false := by rw [vz, h]; simp
theorem vz0 {v : Vl} (h : (v.kind == 0) = true) (h1 : (v.n == 0) = true) (h2 : eB v.s = true) : vz v = true := by rw [vz, h, h1, h2]; rfl
theorem mkS_bad {inn : List Col} {ks : List Int} {o : Ins} (h : bareS o = false) : mkS inn ks o = none := by rw [mkS, if_pos h]

theorem mkS1 {inn : List Col} {ks : List Int} {a b : Int} {sep : ByteArray} {v : Vl} (h : bareS ⟨1, a, b, sep, v⟩ = true) : mkS inn ks ⟨1, a, b, sep, v⟩ = if 0 ≤ a ∧ a < inn.length then (inn[a.toNat]?).map (·.kind) else none := by rw [mkS, if_neg (by rw [h]; decide), if_pos rfl]
theorem mkS2 {inn : List Col} {ks : List Int} {a b : Int} {sep : ByteArray} {v : Vl} (h : bareS ⟨2, a, b, sep, v⟩ = true) : mkS inn ks ⟨2, a, b, sep, v⟩ = if validS v = true then some v.kind else none := by rw [mkS, if_neg (by rw [h]; decide), if_neg (by simp), if_pos rfl]
theorem mkS3 {inn : List Col} {ks : List Int} {a b : Int} {sep : ByteArray} {v : Vl} (h : bareS ⟨3, a, b, sep, v⟩ = true) : mkS inn ks ⟨3, a, b, sep, v⟩ = if fromS b ≠ 0 ∧ atS ks a = fromS b then some (toS b) else none := by rw [mkS, if_neg (by rw [h]; decide), if_neg (by simp), if_neg (by simp), if_pos rfl]
theorem mkS4 {inn : List Col} {ks : List Int} {a b : Int} {sep : ByteArray} {v : Vl} (h : bareS ⟨4, a, b, sep, v⟩ = true) : mkS inn ks ⟨4, a, b, sep, v⟩ = if atS ks a = 4 ∧ eB sep = false ∧ validU sep = true then some 4 else none := by rw [mkS, if_neg (by rw [h]; decide), if_neg (by simp), if_neg (by simp), if_neg (by simp), if_pos (.inl rfl)]
theorem mkS5 {inn : List Col} {ks : List Int} {a b : Int} {sep : ByteArray} {v : Vl} (h : bareS ⟨5, a, b, sep, v⟩ = true) : mkS inn ks ⟨5, a, b, sep, v⟩ = if atS ks a = 4 ∧ eB sep = false ∧ validU sep = true then some 4 else none := by rw [mkS, if_neg (by rw [h]; decide), if_neg (by simp), if_neg (by simp), if_neg (by simp), if_pos (.inr rfl)]
theorem mkS6 {inn : List Col} {ks : List Int} {a b : Int} {sep : ByteArray} {v : Vl} (h : bareS ⟨6, a, b, sep, v⟩ = true) : mkS inn ks ⟨6, a, b, sep, v⟩ = if atS ks a = 4 ∧ atS ks b = 4 ∧ validU sep = true then some 4 else none := by rw [mkS, if_neg (by rw [h]; decide), if_neg (by simp), if_neg (by simp), if_neg (by simp), if_neg (by simp), if_pos rfl]

theorem at_c' {α : Type} {f : α → List AV} {z : Nat} (hz : ∀ a, (f a).length = z) {l : List α} {a : Int} {x : α} (h : l[a.toNat]? = some x) (o : Nat) (ho : o < z) : (List.drop o (List.drop (a.toNat * z) (l.flatMap f)))[0]? = (f x)[o]? := by
  have := at_c hz (i := a.toNat) h o ho
  rwa [show Int.toNat ((a.toNat : Nat) : Int) = a.toNat from rfl] at this

set_option maxHeartbeats 8000000 in
theorem kindOf_1 (inn : List Col) (ks : List Int) (a b : Int) (sep : ByteArray) (v : Vl) (hs : sep.size < 4611686018427387904) (hv : v.s.size < 4611686018427387904) :
    fnK E0 63 [.ext (colsC inn) inn.length, .ext (ks.map vi) ks.length, .agg (insC ⟨1, a, b, sep, v⟩)] [] (kindOfR inn ks ⟨1, a, b, sep, v⟩) := by
  conv => whnf
  refine br_case (fun ha => ?_) (fun ha => ?_) <;> (try rw [ha]) <;> (conv => whnf)
  · refine br_case (fun hb => ?_) (fun hb => ?_) <;> (try rw [hb])
    · have hbq : (b == 0) = true := hb
      conv => whnf
      refine br_case (fun hc => ?_) (fun hc => ?_) <;> (try rw [hc])
      · have hcq : eB sep = true := hc
        conv => whnf
        rw [eqG53]
        conv => whnf
        refine br_case (fun hk => ?_) (fun hk => ?_) <;> (try rw [hk])
        · have hkq : (v.kind == 0) = true := hk
          conv => whnf
          refine br_case (fun hn => ?_) (fun hn => ?_) <;> (try rw [hn])
          · have hnq : (v.n == 0) = true := hn
            conv => whnf
            refine br_case (fun he => ?_) (fun he => ?_) <;> (try rw [he])
            · have heq : eB v.s = true := he
              conv => whnf
              have hz : vz v = true := vz0 hkq hnq heq
              have hbare : bareS ⟨1, a, b, sep, v⟩ = true := by rw [bare1, hbq, hcq, hz]; rfl
              refine callK0 (by kernel_rfl) rfl rfl (by rfl) ktext_ok rfl ?_
              conv => whnf
              refine br_case (fun g1 => ?_) (fun g1 => ?_) <;> (try rw [g1])
              · have g1q : a < 0 := of_decide_eq_true g1
                conv => whnf
                refine bindP_of (leave0 (by rfl)) ?_
                exact ⟨_, false, rfl, rfl, .inr ⟨rfl, by rw [mkS1 hbare, if_neg (by omega)]⟩⟩
              have g1q : ¬ a < 0 := of_decide_eq_false g1
              conv => whnf
              refine br_case (fun g2 => ?_) (fun g2 => ?_)
              · have g2q : a ≥ (inn.length : Nat) := of_decide_eq_true g2
                conv => whnf
                refine bindP_of (leave0 (by rfl)) ?_
                exact ⟨_, false, rfl, rfl, .inr ⟨rfl, by rw [mkS1 hbare, if_neg (by omega)]⟩⟩
              have g2q : ¬ a ≥ (inn.length : Nat) := of_decide_eq_false g2
              obtain ⟨x, hx⟩ : ∃ x, inn[a.toNat]? = some x := ⟨_, List.getElem?_eq_getElem (by omega)⟩
              conv => whnf
              refine br_case (fun g3 => ?_) (fun g3 => absurd (show 0 ≤ a ∧ a < (inn.length : Nat) from ⟨by omega, by omega⟩) (of_decide_eq_false g3))
              conv => whnf
              generalize hq : (List.drop _ _)[0]? = q
              obtain rfl : q = some (vi x.kind) := hq.symm.trans (at_c' (f := colC) (z := 3) (fun _ => rfl) hx 2 (by decide))
              clear hq
              conv => whnf
              refine bindP_of (leave0 (by rfl)) ?_
              exact ⟨x.kind, true, rfl, rfl, .inl ⟨rfl, by rw [mkS1 hbare, if_pos ⟨by omega, by omega⟩, hx]; rfl⟩⟩
            · have heq : eB v.s = false := he
              conv => whnf
              refine bindP_of (leave0 (by rfl)) ?_
              exact ⟨0, false, rfl, rfl, .inr ⟨rfl, mkS_bad (by rw [bare1, vz3 heq]; all_goals simp)⟩⟩
          · have hnq : (v.n == 0) = false := hn
            conv => whnf
            refine bindP_of (leave0 (by rfl)) ?_
            exact ⟨0, false, rfl, rfl, .inr ⟨rfl, mkS_bad (by rw [bare1, vz2 hnq]; all_goals simp)⟩⟩
        · have hkq : (v.kind == 0) = false := hk
          conv => whnf
          refine bindP_of (leave0 (by rfl)) ?_
          exact ⟨0, false, rfl, rfl, .inr ⟨rfl, mkS_bad (by rw [bare1, vz1 hkq]; all_goals simp)⟩⟩
      · have hcq : eB sep = false := hc
        conv => whnf
        refine bindP_of (leave0 (by rfl)) ?_
        exact ⟨0, false, rfl, rfl, .inr ⟨rfl, mkS_bad (by rw [bare1, hcq]; all_goals simp)⟩⟩
    · have hbq : (b == 0) = false := hb
      conv => whnf
      refine bindP_of (leave0 (by rfl)) ?_
      exact ⟨0, false, rfl, rfl, .inr ⟨rfl, mkS_bad (by rw [bare1, hbq]; all_goals simp)⟩⟩
  · refine br_case (fun hb => ?_) (fun hb => ?_) <;> (try rw [hb])
    · have hbq : (b == 0) = true := hb
      conv => whnf
      refine br_case (fun hc => ?_) (fun hc => ?_) <;> (try rw [hc])
      · have hcq : eB sep = true := hc
        conv => whnf
        rw [eqG53]
        conv => whnf
        refine br_case (fun hk => ?_) (fun hk => ?_) <;> (try rw [hk])
        · have hkq : (v.kind == 0) = true := hk
          conv => whnf
          refine br_case (fun hn => ?_) (fun hn => ?_) <;> (try rw [hn])
          · have hnq : (v.n == 0) = true := hn
            conv => whnf
            refine br_case (fun he => ?_) (fun he => ?_) <;> (try rw [he])
            · have heq : eB v.s = true := he
              conv => whnf
              have hz : vz v = true := vz0 hkq hnq heq
              have hbare : bareS ⟨1, a, b, sep, v⟩ = true := by rw [bare1, hbq, hcq, hz]; rfl
              refine callK0 (by kernel_rfl) rfl rfl (by rfl) ktext_ok rfl ?_
              conv => whnf
              refine br_case (fun g1 => ?_) (fun g1 => ?_) <;> (try rw [g1])
              · have g1q : a < 0 := of_decide_eq_true g1
                conv => whnf
                refine bindP_of (leave0 (by rfl)) ?_
                exact ⟨_, false, rfl, rfl, .inr ⟨rfl, by rw [mkS1 hbare, if_neg (by omega)]⟩⟩
              have g1q : ¬ a < 0 := of_decide_eq_false g1
              conv => whnf
              refine br_case (fun g2 => ?_) (fun g2 => ?_)
              · have g2q : a ≥ (inn.length : Nat) := of_decide_eq_true g2
                conv => whnf
                refine bindP_of (leave0 (by rfl)) ?_
                exact ⟨_, false, rfl, rfl, .inr ⟨rfl, by rw [mkS1 hbare, if_neg (by omega)]⟩⟩
              have g2q : ¬ a ≥ (inn.length : Nat) := of_decide_eq_false g2
              obtain ⟨x, hx⟩ : ∃ x, inn[a.toNat]? = some x := ⟨_, List.getElem?_eq_getElem (by omega)⟩
              conv => whnf
              refine br_case (fun g3 => ?_) (fun g3 => absurd (show 0 ≤ a ∧ a < (inn.length : Nat) from ⟨by omega, by omega⟩) (of_decide_eq_false g3))
              conv => whnf
              generalize hq : (List.drop _ _)[0]? = q
              obtain rfl : q = some (vi x.kind) := hq.symm.trans (at_c' (f := colC) (z := 3) (fun _ => rfl) hx 2 (by decide))
              clear hq
              conv => whnf
              refine bindP_of (leave0 (by rfl)) ?_
              exact ⟨x.kind, true, rfl, rfl, .inl ⟨rfl, by rw [mkS1 hbare, if_pos ⟨by omega, by omega⟩, hx]; rfl⟩⟩
            · have heq : eB v.s = false := he
              conv => whnf
              refine bindP_of (leave0 (by rfl)) ?_
              exact ⟨0, false, rfl, rfl, .inr ⟨rfl, mkS_bad (by rw [bare1, vz3 heq]; all_goals simp)⟩⟩
          · have hnq : (v.n == 0) = false := hn
            conv => whnf
            refine bindP_of (leave0 (by rfl)) ?_
            exact ⟨0, false, rfl, rfl, .inr ⟨rfl, mkS_bad (by rw [bare1, vz2 hnq]; all_goals simp)⟩⟩
        · have hkq : (v.kind == 0) = false := hk
          conv => whnf
          refine bindP_of (leave0 (by rfl)) ?_
          exact ⟨0, false, rfl, rfl, .inr ⟨rfl, mkS_bad (by rw [bare1, vz1 hkq]; all_goals simp)⟩⟩
      · have hcq : eB sep = false := hc
        conv => whnf
        refine bindP_of (leave0 (by rfl)) ?_
        exact ⟨0, false, rfl, rfl, .inr ⟨rfl, mkS_bad (by rw [bare1, hcq]; all_goals simp)⟩⟩
    · have hbq : (b == 0) = false := hb
      conv => whnf
      refine bindP_of (leave0 (by rfl)) ?_
      exact ⟨0, false, rfl, rfl, .inr ⟨rfl, mkS_bad (by rw [bare1, hbq]; all_goals simp)⟩⟩

set_option maxHeartbeats 8000000 in
theorem kindOf_2 (inn : List Col) (ks : List Int) (a b : Int) (sep : ByteArray) (v : Vl) (hs : sep.size < 4611686018427387904) (hv : v.s.size < 4611686018427387904) :
    fnK E0 63 [.ext (colsC inn) inn.length, .ext (ks.map vi) ks.length, .agg (insC ⟨2, a, b, sep, v⟩)] [] (kindOfR inn ks ⟨2, a, b, sep, v⟩) := by
  conv => whnf
  refine br_case (fun ha => ?_) (fun ha => ?_) <;> (try rw [ha])
  · have haq : (a == 0) = true := ha
    conv => whnf
    refine br_case (fun hb => ?_) (fun hb => ?_) <;> (try rw [hb])
    · have hbq : (b == 0) = true := hb
      conv => whnf
      refine br_case (fun hc => ?_) (fun hc => ?_) <;> (try rw [hc])
      · have hcq : eB sep = true := hc
        conv => whnf
        rw [eqG53]
        conv => whnf
        refine br_case (fun hk => ?_) (fun hk => ?_) <;> (try rw [hk]) <;> (conv => whnf)
        · refine br_case (fun hn => ?_) (fun hn => ?_) <;> (try rw [hn]) <;> (conv => whnf)
          · refine br_case (fun he => ?_) (fun he => ?_) <;> (try rw [he]) <;> (conv => whnf)
            · have hbare : bareS ⟨2, a, b, sep, v⟩ = true := by rw [bare2, haq, hbq, hcq]; rfl
              refine callK0 (by kernel_rfl) rfl rfl (by rfl) ktext_ok rfl ?_
              conv => whnf
              refine callK0 (by kernel_rfl) rfl rfl (by rfl) (kvalid_ok v hv) rfl ?_
              conv => whnf
              refine bindP_of (leave0 (by rfl)) ?_
              refine ⟨v.kind, validS v, rfl, rfl, ?_⟩
              rw [mkS2 hbare]
              cases validS v with
              | true => exact .inl ⟨rfl, rfl⟩
              | false => exact .inr ⟨rfl, rfl⟩
            · have hbare : bareS ⟨2, a, b, sep, v⟩ = true := by rw [bare2, haq, hbq, hcq]; rfl
              refine callK0 (by kernel_rfl) rfl rfl (by rfl) ktext_ok rfl ?_
              conv => whnf
              refine callK0 (by kernel_rfl) rfl rfl (by rfl) (kvalid_ok v hv) rfl ?_
              conv => whnf
              refine bindP_of (leave0 (by rfl)) ?_
              refine ⟨v.kind, validS v, rfl, rfl, ?_⟩
              rw [mkS2 hbare]
              cases validS v with
              | true => exact .inl ⟨rfl, rfl⟩
              | false => exact .inr ⟨rfl, rfl⟩
          · have hbare : bareS ⟨2, a, b, sep, v⟩ = true := by rw [bare2, haq, hbq, hcq]; rfl
            refine callK0 (by kernel_rfl) rfl rfl (by rfl) ktext_ok rfl ?_
            conv => whnf
            refine callK0 (by kernel_rfl) rfl rfl (by rfl) (kvalid_ok v hv) rfl ?_
            conv => whnf
            refine bindP_of (leave0 (by rfl)) ?_
            refine ⟨v.kind, validS v, rfl, rfl, ?_⟩
            rw [mkS2 hbare]
            cases validS v with
            | true => exact .inl ⟨rfl, rfl⟩
            | false => exact .inr ⟨rfl, rfl⟩
        · have hbare : bareS ⟨2, a, b, sep, v⟩ = true := by rw [bare2, haq, hbq, hcq]; rfl
          refine callK0 (by kernel_rfl) rfl rfl (by rfl) ktext_ok rfl ?_
          conv => whnf
          refine callK0 (by kernel_rfl) rfl rfl (by rfl) (kvalid_ok v hv) rfl ?_
          conv => whnf
          refine bindP_of (leave0 (by rfl)) ?_
          refine ⟨v.kind, validS v, rfl, rfl, ?_⟩
          rw [mkS2 hbare]
          cases validS v with
          | true => exact .inl ⟨rfl, rfl⟩
          | false => exact .inr ⟨rfl, rfl⟩
      · have hcq : eB sep = false := hc
        conv => whnf
        refine bindP_of (leave0 (by rfl)) ?_
        exact ⟨0, false, rfl, rfl, .inr ⟨rfl, mkS_bad (by rw [bare2, hcq]; all_goals simp)⟩⟩
    · have hbq : (b == 0) = false := hb
      conv => whnf
      refine bindP_of (leave0 (by rfl)) ?_
      exact ⟨0, false, rfl, rfl, .inr ⟨rfl, mkS_bad (by rw [bare2, hbq]; all_goals simp)⟩⟩
  · have haq : (a == 0) = false := ha
    conv => whnf
    refine bindP_of (leave0 (by rfl)) ?_
    exact ⟨0, false, rfl, rfl, .inr ⟨rfl, mkS_bad (by rw [bare2, haq]; all_goals simp)⟩⟩

set_option maxHeartbeats 8000000 in
theorem kindOf_3 (inn : List Col) (ks : List Int) (a b : Int) (sep : ByteArray) (v : Vl) (hs : sep.size < 4611686018427387904) (hv : v.s.size < 4611686018427387904) :
    fnK E0 63 [.ext (colsC inn) inn.length, .ext (ks.map vi) ks.length, .agg (insC ⟨3, a, b, sep, v⟩)] [] (kindOfR inn ks ⟨3, a, b, sep, v⟩) := by
  conv => whnf
  refine br_case (fun ha => ?_) (fun ha => ?_) <;> (try rw [ha]) <;> (conv => whnf)
  · refine br_case (fun hb => ?_) (fun hb => ?_) <;> (try rw [hb]) <;> (conv => whnf)
    · refine br_case (fun hc => ?_) (fun hc => ?_) <;> (try rw [hc])
      · have hcq : eB sep = true := hc
        conv => whnf
        rw [eqG53]
        conv => whnf
        refine br_case (fun hk => ?_) (fun hk => ?_) <;> (try rw [hk])
        · have hkq : (v.kind == 0) = true := hk
          conv => whnf
          refine br_case (fun hn => ?_) (fun hn => ?_) <;> (try rw [hn])
          · have hnq : (v.n == 0) = true := hn
            conv => whnf
            refine br_case (fun he => ?_) (fun he => ?_) <;> (try rw [he])
            · have heq : eB v.s = true := he
              conv => whnf
              have hz : vz v = true := vz0 hkq hnq heq
              have hbare : bareS ⟨3, a, b, sep, v⟩ = true := by rw [bare3, hcq, hz]; rfl
              refine callK0 (by kernel_rfl) rfl rfl (by rfl) ktext_ok rfl ?_
              conv => whnf
              refine callK0 (by kernel_rfl) rfl rfl (by rfl) (from_ok b) rfl ?_
              conv => whnf
              refine callK0 (by kernel_rfl) rfl rfl (by rfl) (to_ok b) rfl ?_
              conv => whnf
              refine br_case (fun g1 => ?_) (fun g1 => ?_) <;> (try rw [g1])
              · have g1q : (fromS b != 0) = true := g1
                conv => whnf
                refine callK_of (ids := [0]) (us := [0]) (rs := [⟨[.ext (ks.map vi) ks.length], .is 36, true⟩]) (args' := [vi a, .ptr 0 0]) (by kernel_rfl) (by rfl) (by rfl) (by rfl) (by rfl) (at_ok ks a) (by rfl) (Nat.le_refl _) ?_
                conv => whnf
                refine bindP_of (leave0 (by rfl)) ?_
                refine ⟨toS b, (atS ks a == fromS b), rfl, rfl, ?_⟩
                rw [mkS3 hbare]
                cases hat : (atS ks a == fromS b) with
                | true => exact .inl ⟨rfl, by rw [if_pos ⟨by simpa using g1q, by simpa using hat⟩]⟩
                | false => exact .inr ⟨rfl, by rw [if_neg (fun e => by rw [e.2] at hat; simp at hat)]⟩
              have g1q : (fromS b != 0) = false := g1
              conv => whnf
              refine bindP_of (leave0 (by rfl)) ?_
              exact ⟨_, false, rfl, rfl, .inr ⟨rfl, by rw [mkS3 hbare, if_neg (fun e => by have := e.1; simp at g1q; exact this g1q)]⟩⟩
            · have heq : eB v.s = false := he
              conv => whnf
              refine bindP_of (leave0 (by rfl)) ?_
              exact ⟨0, false, rfl, rfl, .inr ⟨rfl, mkS_bad (by rw [bare3, vz3 heq]; all_goals simp)⟩⟩
          · have hnq : (v.n == 0) = false := hn
            conv => whnf
            refine bindP_of (leave0 (by rfl)) ?_
            exact ⟨0, false, rfl, rfl, .inr ⟨rfl, mkS_bad (by rw [bare3, vz2 hnq]; all_goals simp)⟩⟩
        · have hkq : (v.kind == 0) = false := hk
          conv => whnf
          refine bindP_of (leave0 (by rfl)) ?_
          exact ⟨0, false, rfl, rfl, .inr ⟨rfl, mkS_bad (by rw [bare3, vz1 hkq]; all_goals simp)⟩⟩
      · have hcq : eB sep = false := hc
        conv => whnf
        refine bindP_of (leave0 (by rfl)) ?_
        exact ⟨0, false, rfl, rfl, .inr ⟨rfl, mkS_bad (by rw [bare3, hcq]; all_goals simp)⟩⟩
    · refine br_case (fun hc => ?_) (fun hc => ?_) <;> (try rw [hc])
      · have hcq : eB sep = true := hc
        conv => whnf
        rw [eqG53]
        conv => whnf
        refine br_case (fun hk => ?_) (fun hk => ?_) <;> (try rw [hk])
        · have hkq : (v.kind == 0) = true := hk
          conv => whnf
          refine br_case (fun hn => ?_) (fun hn => ?_) <;> (try rw [hn])
          · have hnq : (v.n == 0) = true := hn
            conv => whnf
            refine br_case (fun he => ?_) (fun he => ?_) <;> (try rw [he])
            · have heq : eB v.s = true := he
              conv => whnf
              have hz : vz v = true := vz0 hkq hnq heq
              have hbare : bareS ⟨3, a, b, sep, v⟩ = true := by rw [bare3, hcq, hz]; rfl
              refine callK0 (by kernel_rfl) rfl rfl (by rfl) ktext_ok rfl ?_
              conv => whnf
              refine callK0 (by kernel_rfl) rfl rfl (by rfl) (from_ok b) rfl ?_
              conv => whnf
              refine callK0 (by kernel_rfl) rfl rfl (by rfl) (to_ok b) rfl ?_
              conv => whnf
              refine br_case (fun g1 => ?_) (fun g1 => ?_) <;> (try rw [g1])
              · have g1q : (fromS b != 0) = true := g1
                conv => whnf
                refine callK_of (ids := [0]) (us := [0]) (rs := [⟨[.ext (ks.map vi) ks.length], .is 36, true⟩]) (args' := [vi a, .ptr 0 0]) (by kernel_rfl) (by rfl) (by rfl) (by rfl) (by rfl) (at_ok ks a) (by rfl) (Nat.le_refl _) ?_
                conv => whnf
                refine bindP_of (leave0 (by rfl)) ?_
                refine ⟨toS b, (atS ks a == fromS b), rfl, rfl, ?_⟩
                rw [mkS3 hbare]
                cases hat : (atS ks a == fromS b) with
                | true => exact .inl ⟨rfl, by rw [if_pos ⟨by simpa using g1q, by simpa using hat⟩]⟩
                | false => exact .inr ⟨rfl, by rw [if_neg (fun e => by rw [e.2] at hat; simp at hat)]⟩
              have g1q : (fromS b != 0) = false := g1
              conv => whnf
              refine bindP_of (leave0 (by rfl)) ?_
              exact ⟨_, false, rfl, rfl, .inr ⟨rfl, by rw [mkS3 hbare, if_neg (fun e => by have := e.1; simp at g1q; exact this g1q)]⟩⟩
            · have heq : eB v.s = false := he
              conv => whnf
              refine bindP_of (leave0 (by rfl)) ?_
              exact ⟨0, false, rfl, rfl, .inr ⟨rfl, mkS_bad (by rw [bare3, vz3 heq]; all_goals simp)⟩⟩
          · have hnq : (v.n == 0) = false := hn
            conv => whnf
            refine bindP_of (leave0 (by rfl)) ?_
            exact ⟨0, false, rfl, rfl, .inr ⟨rfl, mkS_bad (by rw [bare3, vz2 hnq]; all_goals simp)⟩⟩
        · have hkq : (v.kind == 0) = false := hk
          conv => whnf
          refine bindP_of (leave0 (by rfl)) ?_
          exact ⟨0, false, rfl, rfl, .inr ⟨rfl, mkS_bad (by rw [bare3, vz1 hkq]; all_goals simp)⟩⟩
      · have hcq : eB sep = false := hc
        conv => whnf
        refine bindP_of (leave0 (by rfl)) ?_
        exact ⟨0, false, rfl, rfl, .inr ⟨rfl, mkS_bad (by rw [bare3, hcq]; all_goals simp)⟩⟩
  · refine br_case (fun hb => ?_) (fun hb => ?_) <;> (try rw [hb]) <;> (conv => whnf)
    · refine br_case (fun hc => ?_) (fun hc => ?_) <;> (try rw [hc])
      · have hcq : eB sep = true := hc
        conv => whnf
        rw [eqG53]
        conv => whnf
        refine br_case (fun hk => ?_) (fun hk => ?_) <;> (try rw [hk])
        · have hkq : (v.kind == 0) = true := hk
          conv => whnf
          refine br_case (fun hn => ?_) (fun hn => ?_) <;> (try rw [hn])
          · have hnq : (v.n == 0) = true := hn
            conv => whnf
            refine br_case (fun he => ?_) (fun he => ?_) <;> (try rw [he])
            · have heq : eB v.s = true := he
              conv => whnf
              have hz : vz v = true := vz0 hkq hnq heq
              have hbare : bareS ⟨3, a, b, sep, v⟩ = true := by rw [bare3, hcq, hz]; rfl
              refine callK0 (by kernel_rfl) rfl rfl (by rfl) ktext_ok rfl ?_
              conv => whnf
              refine callK0 (by kernel_rfl) rfl rfl (by rfl) (from_ok b) rfl ?_
              conv => whnf
              refine callK0 (by kernel_rfl) rfl rfl (by rfl) (to_ok b) rfl ?_
              conv => whnf
              refine br_case (fun g1 => ?_) (fun g1 => ?_) <;> (try rw [g1])
              · have g1q : (fromS b != 0) = true := g1
                conv => whnf
                refine callK_of (ids := [0]) (us := [0]) (rs := [⟨[.ext (ks.map vi) ks.length], .is 36, true⟩]) (args' := [vi a, .ptr 0 0]) (by kernel_rfl) (by rfl) (by rfl) (by rfl) (by rfl) (at_ok ks a) (by rfl) (Nat.le_refl _) ?_
                conv => whnf
                refine bindP_of (leave0 (by rfl)) ?_
                refine ⟨toS b, (atS ks a == fromS b), rfl, rfl, ?_⟩
                rw [mkS3 hbare]
                cases hat : (atS ks a == fromS b) with
                | true => exact .inl ⟨rfl, by rw [if_pos ⟨by simpa using g1q, by simpa using hat⟩]⟩
                | false => exact .inr ⟨rfl, by rw [if_neg (fun e => by rw [e.2] at hat; simp at hat)]⟩
              have g1q : (fromS b != 0) = false := g1
              conv => whnf
              refine bindP_of (leave0 (by rfl)) ?_
              exact ⟨_, false, rfl, rfl, .inr ⟨rfl, by rw [mkS3 hbare, if_neg (fun e => by have := e.1; simp at g1q; exact this g1q)]⟩⟩
            · have heq : eB v.s = false := he
              conv => whnf
              refine bindP_of (leave0 (by rfl)) ?_
              exact ⟨0, false, rfl, rfl, .inr ⟨rfl, mkS_bad (by rw [bare3, vz3 heq]; all_goals simp)⟩⟩
          · have hnq : (v.n == 0) = false := hn
            conv => whnf
            refine bindP_of (leave0 (by rfl)) ?_
            exact ⟨0, false, rfl, rfl, .inr ⟨rfl, mkS_bad (by rw [bare3, vz2 hnq]; all_goals simp)⟩⟩
        · have hkq : (v.kind == 0) = false := hk
          conv => whnf
          refine bindP_of (leave0 (by rfl)) ?_
          exact ⟨0, false, rfl, rfl, .inr ⟨rfl, mkS_bad (by rw [bare3, vz1 hkq]; all_goals simp)⟩⟩
      · have hcq : eB sep = false := hc
        conv => whnf
        refine bindP_of (leave0 (by rfl)) ?_
        exact ⟨0, false, rfl, rfl, .inr ⟨rfl, mkS_bad (by rw [bare3, hcq]; all_goals simp)⟩⟩
    · refine br_case (fun hc => ?_) (fun hc => ?_) <;> (try rw [hc])
      · have hcq : eB sep = true := hc
        conv => whnf
        rw [eqG53]
        conv => whnf
        refine br_case (fun hk => ?_) (fun hk => ?_) <;> (try rw [hk])
        · have hkq : (v.kind == 0) = true := hk
          conv => whnf
          refine br_case (fun hn => ?_) (fun hn => ?_) <;> (try rw [hn])
          · have hnq : (v.n == 0) = true := hn
            conv => whnf
            refine br_case (fun he => ?_) (fun he => ?_) <;> (try rw [he])
            · have heq : eB v.s = true := he
              conv => whnf
              have hz : vz v = true := vz0 hkq hnq heq
              have hbare : bareS ⟨3, a, b, sep, v⟩ = true := by rw [bare3, hcq, hz]; rfl
              refine callK0 (by kernel_rfl) rfl rfl (by rfl) ktext_ok rfl ?_
              conv => whnf
              refine callK0 (by kernel_rfl) rfl rfl (by rfl) (from_ok b) rfl ?_
              conv => whnf
              refine callK0 (by kernel_rfl) rfl rfl (by rfl) (to_ok b) rfl ?_
              conv => whnf
              refine br_case (fun g1 => ?_) (fun g1 => ?_) <;> (try rw [g1])
              · have g1q : (fromS b != 0) = true := g1
                conv => whnf
                refine callK_of (ids := [0]) (us := [0]) (rs := [⟨[.ext (ks.map vi) ks.length], .is 36, true⟩]) (args' := [vi a, .ptr 0 0]) (by kernel_rfl) (by rfl) (by rfl) (by rfl) (by rfl) (at_ok ks a) (by rfl) (Nat.le_refl _) ?_
                conv => whnf
                refine bindP_of (leave0 (by rfl)) ?_
                refine ⟨toS b, (atS ks a == fromS b), rfl, rfl, ?_⟩
                rw [mkS3 hbare]
                cases hat : (atS ks a == fromS b) with
                | true => exact .inl ⟨rfl, by rw [if_pos ⟨by simpa using g1q, by simpa using hat⟩]⟩
                | false => exact .inr ⟨rfl, by rw [if_neg (fun e => by rw [e.2] at hat; simp at hat)]⟩
              have g1q : (fromS b != 0) = false := g1
              conv => whnf
              refine bindP_of (leave0 (by rfl)) ?_
              exact ⟨_, false, rfl, rfl, .inr ⟨rfl, by rw [mkS3 hbare, if_neg (fun e => by have := e.1; simp at g1q; exact this g1q)]⟩⟩
            · have heq : eB v.s = false := he
              conv => whnf
              refine bindP_of (leave0 (by rfl)) ?_
              exact ⟨0, false, rfl, rfl, .inr ⟨rfl, mkS_bad (by rw [bare3, vz3 heq]; all_goals simp)⟩⟩
          · have hnq : (v.n == 0) = false := hn
            conv => whnf
            refine bindP_of (leave0 (by rfl)) ?_
            exact ⟨0, false, rfl, rfl, .inr ⟨rfl, mkS_bad (by rw [bare3, vz2 hnq]; all_goals simp)⟩⟩
        · have hkq : (v.kind == 0) = false := hk
          conv => whnf
          refine bindP_of (leave0 (by rfl)) ?_
          exact ⟨0, false, rfl, rfl, .inr ⟨rfl, mkS_bad (by rw [bare3, vz1 hkq]; all_goals simp)⟩⟩
      · have hcq : eB sep = false := hc
        conv => whnf
        refine bindP_of (leave0 (by rfl)) ?_
        exact ⟨0, false, rfl, rfl, .inr ⟨rfl, mkS_bad (by rw [bare3, hcq]; all_goals simp)⟩⟩

set_option maxHeartbeats 8000000 in
theorem kindOf_4 (inn : List Col) (ks : List Int) (a b : Int) (sep : ByteArray) (v : Vl) (hs : sep.size < 4611686018427387904) (hv : v.s.size < 4611686018427387904) :
    fnK E0 63 [.ext (colsC inn) inn.length, .ext (ks.map vi) ks.length, .agg (insC ⟨4, a, b, sep, v⟩)] [] (kindOfR inn ks ⟨4, a, b, sep, v⟩) := by
  conv => whnf
  refine br_case (fun ha => ?_) (fun ha => ?_) <;> (try rw [ha]) <;> (conv => whnf)
  · refine br_case (fun hb => ?_) (fun hb => ?_) <;> (try rw [hb])
    · have hbq : (b == 0) = true := hb
      conv => whnf
      refine br_case (fun hc => ?_) (fun hc => ?_) <;> (try rw [hc]) <;> (conv => whnf)
      · rw [eqG53]
        conv => whnf
        refine br_case (fun hk => ?_) (fun hk => ?_) <;> (try rw [hk])
        · have hkq : (v.kind == 0) = true := hk
          conv => whnf
          refine br_case (fun hn => ?_) (fun hn => ?_) <;> (try rw [hn])
          · have hnq : (v.n == 0) = true := hn
            conv => whnf
            refine br_case (fun he => ?_) (fun he => ?_) <;> (try rw [he])
            · have heq : eB v.s = true := he
              conv => whnf
              have hz : vz v = true := vz0 hkq hnq heq
              have hbare : bareS ⟨4, a, b, sep, v⟩ = true := by rw [bare4, hbq, hz]; rfl
              refine callK0 (by kernel_rfl) rfl rfl (by rfl) ktext_ok rfl ?_
              conv => whnf
              refine callK_of (ids := [0]) (us := [0]) (rs := [⟨[.ext (ks.map vi) ks.length], .is 36, true⟩]) (args' := [vi a, .ptr 0 0]) (by kernel_rfl) (by rfl) (by rfl) (by rfl) (by rfl) (at_ok ks a) (by rfl) (Nat.le_refl _) ?_
              conv => whnf
              refine br_case (fun g1 => ?_) (fun g1 => ?_) <;> (try rw [g1])
              · have g1q : (atS ks a == 4) = true := g1
                conv => whnf
                refine br_case (fun g2 => ?_) (fun g2 => ?_) <;> (try rw [g2])
                · have g2q : (!eB sep) = true := g2
                  conv => whnf
                  refine callK0 (by kernel_rfl) rfl rfl (by rfl) (valid_ok sep hs) rfl ?_
                  conv => whnf
                  refine bindP_of (leave0 (by rfl)) ?_
                  refine ⟨4, validU sep, rfl, rfl, ?_⟩
                  rw [mkS4 hbare]
                  cases hvv : validU sep with
                  | true => exact .inl ⟨rfl, by rw [if_pos ⟨by simpa using g1q, by simpa using g2q, rfl⟩]⟩
                  | false => exact .inr ⟨rfl, by rw [if_neg (fun e => by simp at e)]⟩
                · have g2q : (!eB sep) = false := g2
                  conv => whnf
                  refine bindP_of (leave0 (by rfl)) ?_
                  exact ⟨_, false, rfl, rfl, .inr ⟨rfl, by rw [mkS4 hbare, if_neg (fun e => by rw [e.2.1] at g2q; simp at g2q)]⟩⟩
              · have g1q : (atS ks a == 4) = false := g1
                conv => whnf
                refine bindP_of (leave0 (by rfl)) ?_
                exact ⟨_, false, rfl, rfl, .inr ⟨rfl, by rw [mkS4 hbare, if_neg (fun e => by rw [e.1] at g1q; simp at g1q)]⟩⟩
            · have heq : eB v.s = false := he
              conv => whnf
              refine bindP_of (leave0 (by rfl)) ?_
              exact ⟨0, false, rfl, rfl, .inr ⟨rfl, mkS_bad (by rw [bare4, vz3 heq]; all_goals simp)⟩⟩
          · have hnq : (v.n == 0) = false := hn
            conv => whnf
            refine bindP_of (leave0 (by rfl)) ?_
            exact ⟨0, false, rfl, rfl, .inr ⟨rfl, mkS_bad (by rw [bare4, vz2 hnq]; all_goals simp)⟩⟩
        · have hkq : (v.kind == 0) = false := hk
          conv => whnf
          refine bindP_of (leave0 (by rfl)) ?_
          exact ⟨0, false, rfl, rfl, .inr ⟨rfl, mkS_bad (by rw [bare4, vz1 hkq]; all_goals simp)⟩⟩
      · rw [eqG53]
        conv => whnf
        refine br_case (fun hk => ?_) (fun hk => ?_) <;> (try rw [hk])
        · have hkq : (v.kind == 0) = true := hk
          conv => whnf
          refine br_case (fun hn => ?_) (fun hn => ?_) <;> (try rw [hn])
          · have hnq : (v.n == 0) = true := hn
            conv => whnf
            refine br_case (fun he => ?_) (fun he => ?_) <;> (try rw [he])
            · have heq : eB v.s = true := he
              conv => whnf
              have hz : vz v = true := vz0 hkq hnq heq
              have hbare : bareS ⟨4, a, b, sep, v⟩ = true := by rw [bare4, hbq, hz]; rfl
              refine callK0 (by kernel_rfl) rfl rfl (by rfl) ktext_ok rfl ?_
              conv => whnf
              refine callK_of (ids := [0]) (us := [0]) (rs := [⟨[.ext (ks.map vi) ks.length], .is 36, true⟩]) (args' := [vi a, .ptr 0 0]) (by kernel_rfl) (by rfl) (by rfl) (by rfl) (by rfl) (at_ok ks a) (by rfl) (Nat.le_refl _) ?_
              conv => whnf
              refine br_case (fun g1 => ?_) (fun g1 => ?_) <;> (try rw [g1])
              · have g1q : (atS ks a == 4) = true := g1
                conv => whnf
                refine br_case (fun g2 => ?_) (fun g2 => ?_) <;> (try rw [g2])
                · have g2q : (!eB sep) = true := g2
                  conv => whnf
                  refine callK0 (by kernel_rfl) rfl rfl (by rfl) (valid_ok sep hs) rfl ?_
                  conv => whnf
                  refine bindP_of (leave0 (by rfl)) ?_
                  refine ⟨4, validU sep, rfl, rfl, ?_⟩
                  rw [mkS4 hbare]
                  cases hvv : validU sep with
                  | true => exact .inl ⟨rfl, by rw [if_pos ⟨by simpa using g1q, by simpa using g2q, rfl⟩]⟩
                  | false => exact .inr ⟨rfl, by rw [if_neg (fun e => by simp at e)]⟩
                · have g2q : (!eB sep) = false := g2
                  conv => whnf
                  refine bindP_of (leave0 (by rfl)) ?_
                  exact ⟨_, false, rfl, rfl, .inr ⟨rfl, by rw [mkS4 hbare, if_neg (fun e => by rw [e.2.1] at g2q; simp at g2q)]⟩⟩
              · have g1q : (atS ks a == 4) = false := g1
                conv => whnf
                refine bindP_of (leave0 (by rfl)) ?_
                exact ⟨_, false, rfl, rfl, .inr ⟨rfl, by rw [mkS4 hbare, if_neg (fun e => by rw [e.1] at g1q; simp at g1q)]⟩⟩
            · have heq : eB v.s = false := he
              conv => whnf
              refine bindP_of (leave0 (by rfl)) ?_
              exact ⟨0, false, rfl, rfl, .inr ⟨rfl, mkS_bad (by rw [bare4, vz3 heq]; all_goals simp)⟩⟩
          · have hnq : (v.n == 0) = false := hn
            conv => whnf
            refine bindP_of (leave0 (by rfl)) ?_
            exact ⟨0, false, rfl, rfl, .inr ⟨rfl, mkS_bad (by rw [bare4, vz2 hnq]; all_goals simp)⟩⟩
        · have hkq : (v.kind == 0) = false := hk
          conv => whnf
          refine bindP_of (leave0 (by rfl)) ?_
          exact ⟨0, false, rfl, rfl, .inr ⟨rfl, mkS_bad (by rw [bare4, vz1 hkq]; all_goals simp)⟩⟩
    · have hbq : (b == 0) = false := hb
      conv => whnf
      refine bindP_of (leave0 (by rfl)) ?_
      exact ⟨0, false, rfl, rfl, .inr ⟨rfl, mkS_bad (by rw [bare4, hbq]; all_goals simp)⟩⟩
  · refine br_case (fun hb => ?_) (fun hb => ?_) <;> (try rw [hb])
    · have hbq : (b == 0) = true := hb
      conv => whnf
      refine br_case (fun hc => ?_) (fun hc => ?_) <;> (try rw [hc]) <;> (conv => whnf)
      · rw [eqG53]
        conv => whnf
        refine br_case (fun hk => ?_) (fun hk => ?_) <;> (try rw [hk])
        · have hkq : (v.kind == 0) = true := hk
          conv => whnf
          refine br_case (fun hn => ?_) (fun hn => ?_) <;> (try rw [hn])
          · have hnq : (v.n == 0) = true := hn
            conv => whnf
            refine br_case (fun he => ?_) (fun he => ?_) <;> (try rw [he])
            · have heq : eB v.s = true := he
              conv => whnf
              have hz : vz v = true := vz0 hkq hnq heq
              have hbare : bareS ⟨4, a, b, sep, v⟩ = true := by rw [bare4, hbq, hz]; rfl
              refine callK0 (by kernel_rfl) rfl rfl (by rfl) ktext_ok rfl ?_
              conv => whnf
              refine callK_of (ids := [0]) (us := [0]) (rs := [⟨[.ext (ks.map vi) ks.length], .is 36, true⟩]) (args' := [vi a, .ptr 0 0]) (by kernel_rfl) (by rfl) (by rfl) (by rfl) (by rfl) (at_ok ks a) (by rfl) (Nat.le_refl _) ?_
              conv => whnf
              refine br_case (fun g1 => ?_) (fun g1 => ?_) <;> (try rw [g1])
              · have g1q : (atS ks a == 4) = true := g1
                conv => whnf
                refine br_case (fun g2 => ?_) (fun g2 => ?_) <;> (try rw [g2])
                · have g2q : (!eB sep) = true := g2
                  conv => whnf
                  refine callK0 (by kernel_rfl) rfl rfl (by rfl) (valid_ok sep hs) rfl ?_
                  conv => whnf
                  refine bindP_of (leave0 (by rfl)) ?_
                  refine ⟨4, validU sep, rfl, rfl, ?_⟩
                  rw [mkS4 hbare]
                  cases hvv : validU sep with
                  | true => exact .inl ⟨rfl, by rw [if_pos ⟨by simpa using g1q, by simpa using g2q, rfl⟩]⟩
                  | false => exact .inr ⟨rfl, by rw [if_neg (fun e => by simp at e)]⟩
                · have g2q : (!eB sep) = false := g2
                  conv => whnf
                  refine bindP_of (leave0 (by rfl)) ?_
                  exact ⟨_, false, rfl, rfl, .inr ⟨rfl, by rw [mkS4 hbare, if_neg (fun e => by rw [e.2.1] at g2q; simp at g2q)]⟩⟩
              · have g1q : (atS ks a == 4) = false := g1
                conv => whnf
                refine bindP_of (leave0 (by rfl)) ?_
                exact ⟨_, false, rfl, rfl, .inr ⟨rfl, by rw [mkS4 hbare, if_neg (fun e => by rw [e.1] at g1q; simp at g1q)]⟩⟩
            · have heq : eB v.s = false := he
              conv => whnf
              refine bindP_of (leave0 (by rfl)) ?_
              exact ⟨0, false, rfl, rfl, .inr ⟨rfl, mkS_bad (by rw [bare4, vz3 heq]; all_goals simp)⟩⟩
          · have hnq : (v.n == 0) = false := hn
            conv => whnf
            refine bindP_of (leave0 (by rfl)) ?_
            exact ⟨0, false, rfl, rfl, .inr ⟨rfl, mkS_bad (by rw [bare4, vz2 hnq]; all_goals simp)⟩⟩
        · have hkq : (v.kind == 0) = false := hk
          conv => whnf
          refine bindP_of (leave0 (by rfl)) ?_
          exact ⟨0, false, rfl, rfl, .inr ⟨rfl, mkS_bad (by rw [bare4, vz1 hkq]; all_goals simp)⟩⟩
      · rw [eqG53]
        conv => whnf
        refine br_case (fun hk => ?_) (fun hk => ?_) <;> (try rw [hk])
        · have hkq : (v.kind == 0) = true := hk
          conv => whnf
          refine br_case (fun hn => ?_) (fun hn => ?_) <;> (try rw [hn])
          · have hnq : (v.n == 0) = true := hn
            conv => whnf
            refine br_case (fun he => ?_) (fun he => ?_) <;> (try rw [he])
            · have heq : eB v.s = true := he
              conv => whnf
              have hz : vz v = true := vz0 hkq hnq heq
              have hbare : bareS ⟨4, a, b, sep, v⟩ = true := by rw [bare4, hbq, hz]; rfl
              refine callK0 (by kernel_rfl) rfl rfl (by rfl) ktext_ok rfl ?_
              conv => whnf
              refine callK_of (ids := [0]) (us := [0]) (rs := [⟨[.ext (ks.map vi) ks.length], .is 36, true⟩]) (args' := [vi a, .ptr 0 0]) (by kernel_rfl) (by rfl) (by rfl) (by rfl) (by rfl) (at_ok ks a) (by rfl) (Nat.le_refl _) ?_
              conv => whnf
              refine br_case (fun g1 => ?_) (fun g1 => ?_) <;> (try rw [g1])
              · have g1q : (atS ks a == 4) = true := g1
                conv => whnf
                refine br_case (fun g2 => ?_) (fun g2 => ?_) <;> (try rw [g2])
                · have g2q : (!eB sep) = true := g2
                  conv => whnf
                  refine callK0 (by kernel_rfl) rfl rfl (by rfl) (valid_ok sep hs) rfl ?_
                  conv => whnf
                  refine bindP_of (leave0 (by rfl)) ?_
                  refine ⟨4, validU sep, rfl, rfl, ?_⟩
                  rw [mkS4 hbare]
                  cases hvv : validU sep with
                  | true => exact .inl ⟨rfl, by rw [if_pos ⟨by simpa using g1q, by simpa using g2q, rfl⟩]⟩
                  | false => exact .inr ⟨rfl, by rw [if_neg (fun e => by simp at e)]⟩
                · have g2q : (!eB sep) = false := g2
                  conv => whnf
                  refine bindP_of (leave0 (by rfl)) ?_
                  exact ⟨_, false, rfl, rfl, .inr ⟨rfl, by rw [mkS4 hbare, if_neg (fun e => by rw [e.2.1] at g2q; simp at g2q)]⟩⟩
              · have g1q : (atS ks a == 4) = false := g1
                conv => whnf
                refine bindP_of (leave0 (by rfl)) ?_
                exact ⟨_, false, rfl, rfl, .inr ⟨rfl, by rw [mkS4 hbare, if_neg (fun e => by rw [e.1] at g1q; simp at g1q)]⟩⟩
            · have heq : eB v.s = false := he
              conv => whnf
              refine bindP_of (leave0 (by rfl)) ?_
              exact ⟨0, false, rfl, rfl, .inr ⟨rfl, mkS_bad (by rw [bare4, vz3 heq]; all_goals simp)⟩⟩
          · have hnq : (v.n == 0) = false := hn
            conv => whnf
            refine bindP_of (leave0 (by rfl)) ?_
            exact ⟨0, false, rfl, rfl, .inr ⟨rfl, mkS_bad (by rw [bare4, vz2 hnq]; all_goals simp)⟩⟩
        · have hkq : (v.kind == 0) = false := hk
          conv => whnf
          refine bindP_of (leave0 (by rfl)) ?_
          exact ⟨0, false, rfl, rfl, .inr ⟨rfl, mkS_bad (by rw [bare4, vz1 hkq]; all_goals simp)⟩⟩
    · have hbq : (b == 0) = false := hb
      conv => whnf
      refine bindP_of (leave0 (by rfl)) ?_
      exact ⟨0, false, rfl, rfl, .inr ⟨rfl, mkS_bad (by rw [bare4, hbq]; all_goals simp)⟩⟩

set_option maxHeartbeats 8000000 in
theorem kindOf_5 (inn : List Col) (ks : List Int) (a b : Int) (sep : ByteArray) (v : Vl) (hs : sep.size < 4611686018427387904) (hv : v.s.size < 4611686018427387904) :
    fnK E0 63 [.ext (colsC inn) inn.length, .ext (ks.map vi) ks.length, .agg (insC ⟨5, a, b, sep, v⟩)] [] (kindOfR inn ks ⟨5, a, b, sep, v⟩) := by
  conv => whnf
  refine br_case (fun ha => ?_) (fun ha => ?_) <;> (try rw [ha]) <;> (conv => whnf)
  · refine br_case (fun hb => ?_) (fun hb => ?_) <;> (try rw [hb])
    · have hbq : (b == 0) = true := hb
      conv => whnf
      refine br_case (fun hc => ?_) (fun hc => ?_) <;> (try rw [hc]) <;> (conv => whnf)
      · rw [eqG53]
        conv => whnf
        refine br_case (fun hk => ?_) (fun hk => ?_) <;> (try rw [hk])
        · have hkq : (v.kind == 0) = true := hk
          conv => whnf
          refine br_case (fun hn => ?_) (fun hn => ?_) <;> (try rw [hn])
          · have hnq : (v.n == 0) = true := hn
            conv => whnf
            refine br_case (fun he => ?_) (fun he => ?_) <;> (try rw [he])
            · have heq : eB v.s = true := he
              conv => whnf
              have hz : vz v = true := vz0 hkq hnq heq
              have hbare : bareS ⟨5, a, b, sep, v⟩ = true := by rw [bare5, hbq, hz]; rfl
              refine callK0 (by kernel_rfl) rfl rfl (by rfl) ktext_ok rfl ?_
              conv => whnf
              refine callK_of (ids := [0]) (us := [0]) (rs := [⟨[.ext (ks.map vi) ks.length], .is 36, true⟩]) (args' := [vi a, .ptr 0 0]) (by kernel_rfl) (by rfl) (by rfl) (by rfl) (by rfl) (at_ok ks a) (by rfl) (Nat.le_refl _) ?_
              conv => whnf
              refine br_case (fun g1 => ?_) (fun g1 => ?_) <;> (try rw [g1])
              · have g1q : (atS ks a == 4) = true := g1
                conv => whnf
                refine br_case (fun g2 => ?_) (fun g2 => ?_) <;> (try rw [g2])
                · have g2q : (!eB sep) = true := g2
                  conv => whnf
                  refine callK0 (by kernel_rfl) rfl rfl (by rfl) (valid_ok sep hs) rfl ?_
                  conv => whnf
                  refine bindP_of (leave0 (by rfl)) ?_
                  refine ⟨4, validU sep, rfl, rfl, ?_⟩
                  rw [mkS5 hbare]
                  cases hvv : validU sep with
                  | true => exact .inl ⟨rfl, by rw [if_pos ⟨by simpa using g1q, by simpa using g2q, rfl⟩]⟩
                  | false => exact .inr ⟨rfl, by rw [if_neg (fun e => by simp at e)]⟩
                · have g2q : (!eB sep) = false := g2
                  conv => whnf
                  refine bindP_of (leave0 (by rfl)) ?_
                  exact ⟨_, false, rfl, rfl, .inr ⟨rfl, by rw [mkS5 hbare, if_neg (fun e => by rw [e.2.1] at g2q; simp at g2q)]⟩⟩
              · have g1q : (atS ks a == 4) = false := g1
                conv => whnf
                refine bindP_of (leave0 (by rfl)) ?_
                exact ⟨_, false, rfl, rfl, .inr ⟨rfl, by rw [mkS5 hbare, if_neg (fun e => by rw [e.1] at g1q; simp at g1q)]⟩⟩
            · have heq : eB v.s = false := he
              conv => whnf
              refine bindP_of (leave0 (by rfl)) ?_
              exact ⟨0, false, rfl, rfl, .inr ⟨rfl, mkS_bad (by rw [bare5, vz3 heq]; all_goals simp)⟩⟩
          · have hnq : (v.n == 0) = false := hn
            conv => whnf
            refine bindP_of (leave0 (by rfl)) ?_
            exact ⟨0, false, rfl, rfl, .inr ⟨rfl, mkS_bad (by rw [bare5, vz2 hnq]; all_goals simp)⟩⟩
        · have hkq : (v.kind == 0) = false := hk
          conv => whnf
          refine bindP_of (leave0 (by rfl)) ?_
          exact ⟨0, false, rfl, rfl, .inr ⟨rfl, mkS_bad (by rw [bare5, vz1 hkq]; all_goals simp)⟩⟩
      · rw [eqG53]
        conv => whnf
        refine br_case (fun hk => ?_) (fun hk => ?_) <;> (try rw [hk])
        · have hkq : (v.kind == 0) = true := hk
          conv => whnf
          refine br_case (fun hn => ?_) (fun hn => ?_) <;> (try rw [hn])
          · have hnq : (v.n == 0) = true := hn
            conv => whnf
            refine br_case (fun he => ?_) (fun he => ?_) <;> (try rw [he])
            · have heq : eB v.s = true := he
              conv => whnf
              have hz : vz v = true := vz0 hkq hnq heq
              have hbare : bareS ⟨5, a, b, sep, v⟩ = true := by rw [bare5, hbq, hz]; rfl
              refine callK0 (by kernel_rfl) rfl rfl (by rfl) ktext_ok rfl ?_
              conv => whnf
              refine callK_of (ids := [0]) (us := [0]) (rs := [⟨[.ext (ks.map vi) ks.length], .is 36, true⟩]) (args' := [vi a, .ptr 0 0]) (by kernel_rfl) (by rfl) (by rfl) (by rfl) (by rfl) (at_ok ks a) (by rfl) (Nat.le_refl _) ?_
              conv => whnf
              refine br_case (fun g1 => ?_) (fun g1 => ?_) <;> (try rw [g1])
              · have g1q : (atS ks a == 4) = true := g1
                conv => whnf
                refine br_case (fun g2 => ?_) (fun g2 => ?_) <;> (try rw [g2])
                · have g2q : (!eB sep) = true := g2
                  conv => whnf
                  refine callK0 (by kernel_rfl) rfl rfl (by rfl) (valid_ok sep hs) rfl ?_
                  conv => whnf
                  refine bindP_of (leave0 (by rfl)) ?_
                  refine ⟨4, validU sep, rfl, rfl, ?_⟩
                  rw [mkS5 hbare]
                  cases hvv : validU sep with
                  | true => exact .inl ⟨rfl, by rw [if_pos ⟨by simpa using g1q, by simpa using g2q, rfl⟩]⟩
                  | false => exact .inr ⟨rfl, by rw [if_neg (fun e => by simp at e)]⟩
                · have g2q : (!eB sep) = false := g2
                  conv => whnf
                  refine bindP_of (leave0 (by rfl)) ?_
                  exact ⟨_, false, rfl, rfl, .inr ⟨rfl, by rw [mkS5 hbare, if_neg (fun e => by rw [e.2.1] at g2q; simp at g2q)]⟩⟩
              · have g1q : (atS ks a == 4) = false := g1
                conv => whnf
                refine bindP_of (leave0 (by rfl)) ?_
                exact ⟨_, false, rfl, rfl, .inr ⟨rfl, by rw [mkS5 hbare, if_neg (fun e => by rw [e.1] at g1q; simp at g1q)]⟩⟩
            · have heq : eB v.s = false := he
              conv => whnf
              refine bindP_of (leave0 (by rfl)) ?_
              exact ⟨0, false, rfl, rfl, .inr ⟨rfl, mkS_bad (by rw [bare5, vz3 heq]; all_goals simp)⟩⟩
          · have hnq : (v.n == 0) = false := hn
            conv => whnf
            refine bindP_of (leave0 (by rfl)) ?_
            exact ⟨0, false, rfl, rfl, .inr ⟨rfl, mkS_bad (by rw [bare5, vz2 hnq]; all_goals simp)⟩⟩
        · have hkq : (v.kind == 0) = false := hk
          conv => whnf
          refine bindP_of (leave0 (by rfl)) ?_
          exact ⟨0, false, rfl, rfl, .inr ⟨rfl, mkS_bad (by rw [bare5, vz1 hkq]; all_goals simp)⟩⟩
    · have hbq : (b == 0) = false := hb
      conv => whnf
      refine bindP_of (leave0 (by rfl)) ?_
      exact ⟨0, false, rfl, rfl, .inr ⟨rfl, mkS_bad (by rw [bare5, hbq]; all_goals simp)⟩⟩
  · refine br_case (fun hb => ?_) (fun hb => ?_) <;> (try rw [hb])
    · have hbq : (b == 0) = true := hb
      conv => whnf
      refine br_case (fun hc => ?_) (fun hc => ?_) <;> (try rw [hc]) <;> (conv => whnf)
      · rw [eqG53]
        conv => whnf
        refine br_case (fun hk => ?_) (fun hk => ?_) <;> (try rw [hk])
        · have hkq : (v.kind == 0) = true := hk
          conv => whnf
          refine br_case (fun hn => ?_) (fun hn => ?_) <;> (try rw [hn])
          · have hnq : (v.n == 0) = true := hn
            conv => whnf
            refine br_case (fun he => ?_) (fun he => ?_) <;> (try rw [he])
            · have heq : eB v.s = true := he
              conv => whnf
              have hz : vz v = true := vz0 hkq hnq heq
              have hbare : bareS ⟨5, a, b, sep, v⟩ = true := by rw [bare5, hbq, hz]; rfl
              refine callK0 (by kernel_rfl) rfl rfl (by rfl) ktext_ok rfl ?_
              conv => whnf
              refine callK_of (ids := [0]) (us := [0]) (rs := [⟨[.ext (ks.map vi) ks.length], .is 36, true⟩]) (args' := [vi a, .ptr 0 0]) (by kernel_rfl) (by rfl) (by rfl) (by rfl) (by rfl) (at_ok ks a) (by rfl) (Nat.le_refl _) ?_
              conv => whnf
              refine br_case (fun g1 => ?_) (fun g1 => ?_) <;> (try rw [g1])
              · have g1q : (atS ks a == 4) = true := g1
                conv => whnf
                refine br_case (fun g2 => ?_) (fun g2 => ?_) <;> (try rw [g2])
                · have g2q : (!eB sep) = true := g2
                  conv => whnf
                  refine callK0 (by kernel_rfl) rfl rfl (by rfl) (valid_ok sep hs) rfl ?_
                  conv => whnf
                  refine bindP_of (leave0 (by rfl)) ?_
                  refine ⟨4, validU sep, rfl, rfl, ?_⟩
                  rw [mkS5 hbare]
                  cases hvv : validU sep with
                  | true => exact .inl ⟨rfl, by rw [if_pos ⟨by simpa using g1q, by simpa using g2q, rfl⟩]⟩
                  | false => exact .inr ⟨rfl, by rw [if_neg (fun e => by simp at e)]⟩
                · have g2q : (!eB sep) = false := g2
                  conv => whnf
                  refine bindP_of (leave0 (by rfl)) ?_
                  exact ⟨_, false, rfl, rfl, .inr ⟨rfl, by rw [mkS5 hbare, if_neg (fun e => by rw [e.2.1] at g2q; simp at g2q)]⟩⟩
              · have g1q : (atS ks a == 4) = false := g1
                conv => whnf
                refine bindP_of (leave0 (by rfl)) ?_
                exact ⟨_, false, rfl, rfl, .inr ⟨rfl, by rw [mkS5 hbare, if_neg (fun e => by rw [e.1] at g1q; simp at g1q)]⟩⟩
            · have heq : eB v.s = false := he
              conv => whnf
              refine bindP_of (leave0 (by rfl)) ?_
              exact ⟨0, false, rfl, rfl, .inr ⟨rfl, mkS_bad (by rw [bare5, vz3 heq]; all_goals simp)⟩⟩
          · have hnq : (v.n == 0) = false := hn
            conv => whnf
            refine bindP_of (leave0 (by rfl)) ?_
            exact ⟨0, false, rfl, rfl, .inr ⟨rfl, mkS_bad (by rw [bare5, vz2 hnq]; all_goals simp)⟩⟩
        · have hkq : (v.kind == 0) = false := hk
          conv => whnf
          refine bindP_of (leave0 (by rfl)) ?_
          exact ⟨0, false, rfl, rfl, .inr ⟨rfl, mkS_bad (by rw [bare5, vz1 hkq]; all_goals simp)⟩⟩
      · rw [eqG53]
        conv => whnf
        refine br_case (fun hk => ?_) (fun hk => ?_) <;> (try rw [hk])
        · have hkq : (v.kind == 0) = true := hk
          conv => whnf
          refine br_case (fun hn => ?_) (fun hn => ?_) <;> (try rw [hn])
          · have hnq : (v.n == 0) = true := hn
            conv => whnf
            refine br_case (fun he => ?_) (fun he => ?_) <;> (try rw [he])
            · have heq : eB v.s = true := he
              conv => whnf
              have hz : vz v = true := vz0 hkq hnq heq
              have hbare : bareS ⟨5, a, b, sep, v⟩ = true := by rw [bare5, hbq, hz]; rfl
              refine callK0 (by kernel_rfl) rfl rfl (by rfl) ktext_ok rfl ?_
              conv => whnf
              refine callK_of (ids := [0]) (us := [0]) (rs := [⟨[.ext (ks.map vi) ks.length], .is 36, true⟩]) (args' := [vi a, .ptr 0 0]) (by kernel_rfl) (by rfl) (by rfl) (by rfl) (by rfl) (at_ok ks a) (by rfl) (Nat.le_refl _) ?_
              conv => whnf
              refine br_case (fun g1 => ?_) (fun g1 => ?_) <;> (try rw [g1])
              · have g1q : (atS ks a == 4) = true := g1
                conv => whnf
                refine br_case (fun g2 => ?_) (fun g2 => ?_) <;> (try rw [g2])
                · have g2q : (!eB sep) = true := g2
                  conv => whnf
                  refine callK0 (by kernel_rfl) rfl rfl (by rfl) (valid_ok sep hs) rfl ?_
                  conv => whnf
                  refine bindP_of (leave0 (by rfl)) ?_
                  refine ⟨4, validU sep, rfl, rfl, ?_⟩
                  rw [mkS5 hbare]
                  cases hvv : validU sep with
                  | true => exact .inl ⟨rfl, by rw [if_pos ⟨by simpa using g1q, by simpa using g2q, rfl⟩]⟩
                  | false => exact .inr ⟨rfl, by rw [if_neg (fun e => by simp at e)]⟩
                · have g2q : (!eB sep) = false := g2
                  conv => whnf
                  refine bindP_of (leave0 (by rfl)) ?_
                  exact ⟨_, false, rfl, rfl, .inr ⟨rfl, by rw [mkS5 hbare, if_neg (fun e => by rw [e.2.1] at g2q; simp at g2q)]⟩⟩
              · have g1q : (atS ks a == 4) = false := g1
                conv => whnf
                refine bindP_of (leave0 (by rfl)) ?_
                exact ⟨_, false, rfl, rfl, .inr ⟨rfl, by rw [mkS5 hbare, if_neg (fun e => by rw [e.1] at g1q; simp at g1q)]⟩⟩
            · have heq : eB v.s = false := he
              conv => whnf
              refine bindP_of (leave0 (by rfl)) ?_
              exact ⟨0, false, rfl, rfl, .inr ⟨rfl, mkS_bad (by rw [bare5, vz3 heq]; all_goals simp)⟩⟩
          · have hnq : (v.n == 0) = false := hn
            conv => whnf
            refine bindP_of (leave0 (by rfl)) ?_
            exact ⟨0, false, rfl, rfl, .inr ⟨rfl, mkS_bad (by rw [bare5, vz2 hnq]; all_goals simp)⟩⟩
        · have hkq : (v.kind == 0) = false := hk
          conv => whnf
          refine bindP_of (leave0 (by rfl)) ?_
          exact ⟨0, false, rfl, rfl, .inr ⟨rfl, mkS_bad (by rw [bare5, vz1 hkq]; all_goals simp)⟩⟩
    · have hbq : (b == 0) = false := hb
      conv => whnf
      refine bindP_of (leave0 (by rfl)) ?_
      exact ⟨0, false, rfl, rfl, .inr ⟨rfl, mkS_bad (by rw [bare5, hbq]; all_goals simp)⟩⟩

set_option maxHeartbeats 8000000 in
theorem kindOf_6 (inn : List Col) (ks : List Int) (a b : Int) (sep : ByteArray) (v : Vl) (hs : sep.size < 4611686018427387904) (hv : v.s.size < 4611686018427387904) :
    fnK E0 63 [.ext (colsC inn) inn.length, .ext (ks.map vi) ks.length, .agg (insC ⟨6, a, b, sep, v⟩)] [] (kindOfR inn ks ⟨6, a, b, sep, v⟩) := by
  conv => whnf
  refine br_case (fun ha => ?_) (fun ha => ?_) <;> (try rw [ha]) <;> (conv => whnf)
  · refine br_case (fun hb => ?_) (fun hb => ?_) <;> (try rw [hb]) <;> (conv => whnf)
    · refine br_case (fun hc => ?_) (fun hc => ?_) <;> (try rw [hc]) <;> (conv => whnf)
      · rw [eqG53]
        conv => whnf
        refine br_case (fun hk => ?_) (fun hk => ?_) <;> (try rw [hk])
        · have hkq : (v.kind == 0) = true := hk
          conv => whnf
          refine br_case (fun hn => ?_) (fun hn => ?_) <;> (try rw [hn])
          · have hnq : (v.n == 0) = true := hn
            conv => whnf
            refine br_case (fun he => ?_) (fun he => ?_) <;> (try rw [he])
            · have heq : eB v.s = true := he
              conv => whnf
              have hz : vz v = true := vz0 hkq hnq heq
              have hbare : bareS ⟨6, a, b, sep, v⟩ = true := by rw [bare6, hz]
              refine callK0 (by kernel_rfl) rfl rfl (by rfl) ktext_ok rfl ?_
              conv => whnf
              refine callK_of (ids := [0]) (us := [0]) (rs := [⟨[.ext (ks.map vi) ks.length], .is 36, true⟩]) (args' := [vi a, .ptr 0 0]) (by kernel_rfl) (by rfl) (by rfl) (by rfl) (by rfl) (at_ok ks a) (by rfl) (Nat.le_refl _) ?_
              conv => whnf
              refine br_case (fun g1 => ?_) (fun g1 => ?_) <;> (try rw [g1])
              · have g1q : (atS ks a == 4) = true := g1
                conv => whnf
                refine callK_of (ids := [0]) (us := [0]) (rs := [⟨[.ext (ks.map vi) ks.length], .is 36, true⟩]) (args' := [vi b, .ptr 0 0]) (by kernel_rfl) (by rfl) (by rfl) (by rfl) (by rfl) (at_ok ks b) (by rfl) (Nat.le_refl _) ?_
                conv => whnf
                refine br_case (fun g2 => ?_) (fun g2 => ?_) <;> (try rw [g2])
                · have g2q : (atS ks b == 4) = true := g2
                  conv => whnf
                  refine callK0 (by kernel_rfl) rfl rfl (by rfl) (valid_ok sep hs) rfl ?_
                  conv => whnf
                  refine bindP_of (leave0 (by rfl)) ?_
                  refine ⟨4, validU sep, rfl, rfl, ?_⟩
                  rw [mkS6 hbare]
                  cases hvv : validU sep with
                  | true => exact .inl ⟨rfl, by rw [if_pos ⟨by simpa using g1q, by simpa using g2q, rfl⟩]⟩
                  | false => exact .inr ⟨rfl, by rw [if_neg (fun e => by simp at e)]⟩
                · have g2q : (atS ks b == 4) = false := g2
                  conv => whnf
                  refine bindP_of (leave0 (by rfl)) ?_
                  exact ⟨_, false, rfl, rfl, .inr ⟨rfl, by rw [mkS6 hbare, if_neg (fun e => by rw [e.2.1] at g2q; simp at g2q)]⟩⟩
              · have g1q : (atS ks a == 4) = false := g1
                conv => whnf
                refine bindP_of (leave0 (by rfl)) ?_
                exact ⟨_, false, rfl, rfl, .inr ⟨rfl, by rw [mkS6 hbare, if_neg (fun e => by rw [e.1] at g1q; simp at g1q)]⟩⟩
            · have heq : eB v.s = false := he
              conv => whnf
              refine bindP_of (leave0 (by rfl)) ?_
              exact ⟨0, false, rfl, rfl, .inr ⟨rfl, mkS_bad (by rw [bare6, vz3 heq]; all_goals simp)⟩⟩
          · have hnq : (v.n == 0) = false := hn
            conv => whnf
            refine bindP_of (leave0 (by rfl)) ?_
            exact ⟨0, false, rfl, rfl, .inr ⟨rfl, mkS_bad (by rw [bare6, vz2 hnq]; all_goals simp)⟩⟩
        · have hkq : (v.kind == 0) = false := hk
          conv => whnf
          refine bindP_of (leave0 (by rfl)) ?_
          exact ⟨0, false, rfl, rfl, .inr ⟨rfl, mkS_bad (by rw [bare6, vz1 hkq]; all_goals simp)⟩⟩
      · rw [eqG53]
        conv => whnf
        refine br_case (fun hk => ?_) (fun hk => ?_) <;> (try rw [hk])
        · have hkq : (v.kind == 0) = true := hk
          conv => whnf
          refine br_case (fun hn => ?_) (fun hn => ?_) <;> (try rw [hn])
          · have hnq : (v.n == 0) = true := hn
            conv => whnf
            refine br_case (fun he => ?_) (fun he => ?_) <;> (try rw [he])
            · have heq : eB v.s = true := he
              conv => whnf
              have hz : vz v = true := vz0 hkq hnq heq
              have hbare : bareS ⟨6, a, b, sep, v⟩ = true := by rw [bare6, hz]
              refine callK0 (by kernel_rfl) rfl rfl (by rfl) ktext_ok rfl ?_
              conv => whnf
              refine callK_of (ids := [0]) (us := [0]) (rs := [⟨[.ext (ks.map vi) ks.length], .is 36, true⟩]) (args' := [vi a, .ptr 0 0]) (by kernel_rfl) (by rfl) (by rfl) (by rfl) (by rfl) (at_ok ks a) (by rfl) (Nat.le_refl _) ?_
              conv => whnf
              refine br_case (fun g1 => ?_) (fun g1 => ?_) <;> (try rw [g1])
              · have g1q : (atS ks a == 4) = true := g1
                conv => whnf
                refine callK_of (ids := [0]) (us := [0]) (rs := [⟨[.ext (ks.map vi) ks.length], .is 36, true⟩]) (args' := [vi b, .ptr 0 0]) (by kernel_rfl) (by rfl) (by rfl) (by rfl) (by rfl) (at_ok ks b) (by rfl) (Nat.le_refl _) ?_
                conv => whnf
                refine br_case (fun g2 => ?_) (fun g2 => ?_) <;> (try rw [g2])
                · have g2q : (atS ks b == 4) = true := g2
                  conv => whnf
                  refine callK0 (by kernel_rfl) rfl rfl (by rfl) (valid_ok sep hs) rfl ?_
                  conv => whnf
                  refine bindP_of (leave0 (by rfl)) ?_
                  refine ⟨4, validU sep, rfl, rfl, ?_⟩
                  rw [mkS6 hbare]
                  cases hvv : validU sep with
                  | true => exact .inl ⟨rfl, by rw [if_pos ⟨by simpa using g1q, by simpa using g2q, rfl⟩]⟩
                  | false => exact .inr ⟨rfl, by rw [if_neg (fun e => by simp at e)]⟩
                · have g2q : (atS ks b == 4) = false := g2
                  conv => whnf
                  refine bindP_of (leave0 (by rfl)) ?_
                  exact ⟨_, false, rfl, rfl, .inr ⟨rfl, by rw [mkS6 hbare, if_neg (fun e => by rw [e.2.1] at g2q; simp at g2q)]⟩⟩
              · have g1q : (atS ks a == 4) = false := g1
                conv => whnf
                refine bindP_of (leave0 (by rfl)) ?_
                exact ⟨_, false, rfl, rfl, .inr ⟨rfl, by rw [mkS6 hbare, if_neg (fun e => by rw [e.1] at g1q; simp at g1q)]⟩⟩
            · have heq : eB v.s = false := he
              conv => whnf
              refine bindP_of (leave0 (by rfl)) ?_
              exact ⟨0, false, rfl, rfl, .inr ⟨rfl, mkS_bad (by rw [bare6, vz3 heq]; all_goals simp)⟩⟩
          · have hnq : (v.n == 0) = false := hn
            conv => whnf
            refine bindP_of (leave0 (by rfl)) ?_
            exact ⟨0, false, rfl, rfl, .inr ⟨rfl, mkS_bad (by rw [bare6, vz2 hnq]; all_goals simp)⟩⟩
        · have hkq : (v.kind == 0) = false := hk
          conv => whnf
          refine bindP_of (leave0 (by rfl)) ?_
          exact ⟨0, false, rfl, rfl, .inr ⟨rfl, mkS_bad (by rw [bare6, vz1 hkq]; all_goals simp)⟩⟩
    · refine br_case (fun hc => ?_) (fun hc => ?_) <;> (try rw [hc]) <;> (conv => whnf)
      · rw [eqG53]
        conv => whnf
        refine br_case (fun hk => ?_) (fun hk => ?_) <;> (try rw [hk])
        · have hkq : (v.kind == 0) = true := hk
          conv => whnf
          refine br_case (fun hn => ?_) (fun hn => ?_) <;> (try rw [hn])
          · have hnq : (v.n == 0) = true := hn
            conv => whnf
            refine br_case (fun he => ?_) (fun he => ?_) <;> (try rw [he])
            · have heq : eB v.s = true := he
              conv => whnf
              have hz : vz v = true := vz0 hkq hnq heq
              have hbare : bareS ⟨6, a, b, sep, v⟩ = true := by rw [bare6, hz]
              refine callK0 (by kernel_rfl) rfl rfl (by rfl) ktext_ok rfl ?_
              conv => whnf
              refine callK_of (ids := [0]) (us := [0]) (rs := [⟨[.ext (ks.map vi) ks.length], .is 36, true⟩]) (args' := [vi a, .ptr 0 0]) (by kernel_rfl) (by rfl) (by rfl) (by rfl) (by rfl) (at_ok ks a) (by rfl) (Nat.le_refl _) ?_
              conv => whnf
              refine br_case (fun g1 => ?_) (fun g1 => ?_) <;> (try rw [g1])
              · have g1q : (atS ks a == 4) = true := g1
                conv => whnf
                refine callK_of (ids := [0]) (us := [0]) (rs := [⟨[.ext (ks.map vi) ks.length], .is 36, true⟩]) (args' := [vi b, .ptr 0 0]) (by kernel_rfl) (by rfl) (by rfl) (by rfl) (by rfl) (at_ok ks b) (by rfl) (Nat.le_refl _) ?_
                conv => whnf
                refine br_case (fun g2 => ?_) (fun g2 => ?_) <;> (try rw [g2])
                · have g2q : (atS ks b == 4) = true := g2
                  conv => whnf
                  refine callK0 (by kernel_rfl) rfl rfl (by rfl) (valid_ok sep hs) rfl ?_
                  conv => whnf
                  refine bindP_of (leave0 (by rfl)) ?_
                  refine ⟨4, validU sep, rfl, rfl, ?_⟩
                  rw [mkS6 hbare]
                  cases hvv : validU sep with
                  | true => exact .inl ⟨rfl, by rw [if_pos ⟨by simpa using g1q, by simpa using g2q, rfl⟩]⟩
                  | false => exact .inr ⟨rfl, by rw [if_neg (fun e => by simp at e)]⟩
                · have g2q : (atS ks b == 4) = false := g2
                  conv => whnf
                  refine bindP_of (leave0 (by rfl)) ?_
                  exact ⟨_, false, rfl, rfl, .inr ⟨rfl, by rw [mkS6 hbare, if_neg (fun e => by rw [e.2.1] at g2q; simp at g2q)]⟩⟩
              · have g1q : (atS ks a == 4) = false := g1
                conv => whnf
                refine bindP_of (leave0 (by rfl)) ?_
                exact ⟨_, false, rfl, rfl, .inr ⟨rfl, by rw [mkS6 hbare, if_neg (fun e => by rw [e.1] at g1q; simp at g1q)]⟩⟩
            · have heq : eB v.s = false := he
              conv => whnf
              refine bindP_of (leave0 (by rfl)) ?_
              exact ⟨0, false, rfl, rfl, .inr ⟨rfl, mkS_bad (by rw [bare6, vz3 heq]; all_goals simp)⟩⟩
          · have hnq : (v.n == 0) = false := hn
            conv => whnf
            refine bindP_of (leave0 (by rfl)) ?_
            exact ⟨0, false, rfl, rfl, .inr ⟨rfl, mkS_bad (by rw [bare6, vz2 hnq]; all_goals simp)⟩⟩
        · have hkq : (v.kind == 0) = false := hk
          conv => whnf
          refine bindP_of (leave0 (by rfl)) ?_
          exact ⟨0, false, rfl, rfl, .inr ⟨rfl, mkS_bad (by rw [bare6, vz1 hkq]; all_goals simp)⟩⟩
      · rw [eqG53]
        conv => whnf
        refine br_case (fun hk => ?_) (fun hk => ?_) <;> (try rw [hk])
        · have hkq : (v.kind == 0) = true := hk
          conv => whnf
          refine br_case (fun hn => ?_) (fun hn => ?_) <;> (try rw [hn])
          · have hnq : (v.n == 0) = true := hn
            conv => whnf
            refine br_case (fun he => ?_) (fun he => ?_) <;> (try rw [he])
            · have heq : eB v.s = true := he
              conv => whnf
              have hz : vz v = true := vz0 hkq hnq heq
              have hbare : bareS ⟨6, a, b, sep, v⟩ = true := by rw [bare6, hz]
              refine callK0 (by kernel_rfl) rfl rfl (by rfl) ktext_ok rfl ?_
              conv => whnf
              refine callK_of (ids := [0]) (us := [0]) (rs := [⟨[.ext (ks.map vi) ks.length], .is 36, true⟩]) (args' := [vi a, .ptr 0 0]) (by kernel_rfl) (by rfl) (by rfl) (by rfl) (by rfl) (at_ok ks a) (by rfl) (Nat.le_refl _) ?_
              conv => whnf
              refine br_case (fun g1 => ?_) (fun g1 => ?_) <;> (try rw [g1])
              · have g1q : (atS ks a == 4) = true := g1
                conv => whnf
                refine callK_of (ids := [0]) (us := [0]) (rs := [⟨[.ext (ks.map vi) ks.length], .is 36, true⟩]) (args' := [vi b, .ptr 0 0]) (by kernel_rfl) (by rfl) (by rfl) (by rfl) (by rfl) (at_ok ks b) (by rfl) (Nat.le_refl _) ?_
                conv => whnf
                refine br_case (fun g2 => ?_) (fun g2 => ?_) <;> (try rw [g2])
                · have g2q : (atS ks b == 4) = true := g2
                  conv => whnf
                  refine callK0 (by kernel_rfl) rfl rfl (by rfl) (valid_ok sep hs) rfl ?_
                  conv => whnf
                  refine bindP_of (leave0 (by rfl)) ?_
                  refine ⟨4, validU sep, rfl, rfl, ?_⟩
                  rw [mkS6 hbare]
                  cases hvv : validU sep with
                  | true => exact .inl ⟨rfl, by rw [if_pos ⟨by simpa using g1q, by simpa using g2q, rfl⟩]⟩
                  | false => exact .inr ⟨rfl, by rw [if_neg (fun e => by simp at e)]⟩
                · have g2q : (atS ks b == 4) = false := g2
                  conv => whnf
                  refine bindP_of (leave0 (by rfl)) ?_
                  exact ⟨_, false, rfl, rfl, .inr ⟨rfl, by rw [mkS6 hbare, if_neg (fun e => by rw [e.2.1] at g2q; simp at g2q)]⟩⟩
              · have g1q : (atS ks a == 4) = false := g1
                conv => whnf
                refine bindP_of (leave0 (by rfl)) ?_
                exact ⟨_, false, rfl, rfl, .inr ⟨rfl, by rw [mkS6 hbare, if_neg (fun e => by rw [e.1] at g1q; simp at g1q)]⟩⟩
            · have heq : eB v.s = false := he
              conv => whnf
              refine bindP_of (leave0 (by rfl)) ?_
              exact ⟨0, false, rfl, rfl, .inr ⟨rfl, mkS_bad (by rw [bare6, vz3 heq]; all_goals simp)⟩⟩
          · have hnq : (v.n == 0) = false := hn
            conv => whnf
            refine bindP_of (leave0 (by rfl)) ?_
            exact ⟨0, false, rfl, rfl, .inr ⟨rfl, mkS_bad (by rw [bare6, vz2 hnq]; all_goals simp)⟩⟩
        · have hkq : (v.kind == 0) = false := hk
          conv => whnf
          refine bindP_of (leave0 (by rfl)) ?_
          exact ⟨0, false, rfl, rfl, .inr ⟨rfl, mkS_bad (by rw [bare6, vz1 hkq]; all_goals simp)⟩⟩
  · refine br_case (fun hb => ?_) (fun hb => ?_) <;> (try rw [hb]) <;> (conv => whnf)
    · refine br_case (fun hc => ?_) (fun hc => ?_) <;> (try rw [hc]) <;> (conv => whnf)
      · rw [eqG53]
        conv => whnf
        refine br_case (fun hk => ?_) (fun hk => ?_) <;> (try rw [hk])
        · have hkq : (v.kind == 0) = true := hk
          conv => whnf
          refine br_case (fun hn => ?_) (fun hn => ?_) <;> (try rw [hn])
          · have hnq : (v.n == 0) = true := hn
            conv => whnf
            refine br_case (fun he => ?_) (fun he => ?_) <;> (try rw [he])
            · have heq : eB v.s = true := he
              conv => whnf
              have hz : vz v = true := vz0 hkq hnq heq
              have hbare : bareS ⟨6, a, b, sep, v⟩ = true := by rw [bare6, hz]
              refine callK0 (by kernel_rfl) rfl rfl (by rfl) ktext_ok rfl ?_
              conv => whnf
              refine callK_of (ids := [0]) (us := [0]) (rs := [⟨[.ext (ks.map vi) ks.length], .is 36, true⟩]) (args' := [vi a, .ptr 0 0]) (by kernel_rfl) (by rfl) (by rfl) (by rfl) (by rfl) (at_ok ks a) (by rfl) (Nat.le_refl _) ?_
              conv => whnf
              refine br_case (fun g1 => ?_) (fun g1 => ?_) <;> (try rw [g1])
              · have g1q : (atS ks a == 4) = true := g1
                conv => whnf
                refine callK_of (ids := [0]) (us := [0]) (rs := [⟨[.ext (ks.map vi) ks.length], .is 36, true⟩]) (args' := [vi b, .ptr 0 0]) (by kernel_rfl) (by rfl) (by rfl) (by rfl) (by rfl) (at_ok ks b) (by rfl) (Nat.le_refl _) ?_
                conv => whnf
                refine br_case (fun g2 => ?_) (fun g2 => ?_) <;> (try rw [g2])
                · have g2q : (atS ks b == 4) = true := g2
                  conv => whnf
                  refine callK0 (by kernel_rfl) rfl rfl (by rfl) (valid_ok sep hs) rfl ?_
                  conv => whnf
                  refine bindP_of (leave0 (by rfl)) ?_
                  refine ⟨4, validU sep, rfl, rfl, ?_⟩
                  rw [mkS6 hbare]
                  cases hvv : validU sep with
                  | true => exact .inl ⟨rfl, by rw [if_pos ⟨by simpa using g1q, by simpa using g2q, rfl⟩]⟩
                  | false => exact .inr ⟨rfl, by rw [if_neg (fun e => by simp at e)]⟩
                · have g2q : (atS ks b == 4) = false := g2
                  conv => whnf
                  refine bindP_of (leave0 (by rfl)) ?_
                  exact ⟨_, false, rfl, rfl, .inr ⟨rfl, by rw [mkS6 hbare, if_neg (fun e => by rw [e.2.1] at g2q; simp at g2q)]⟩⟩
              · have g1q : (atS ks a == 4) = false := g1
                conv => whnf
                refine bindP_of (leave0 (by rfl)) ?_
                exact ⟨_, false, rfl, rfl, .inr ⟨rfl, by rw [mkS6 hbare, if_neg (fun e => by rw [e.1] at g1q; simp at g1q)]⟩⟩
            · have heq : eB v.s = false := he
              conv => whnf
              refine bindP_of (leave0 (by rfl)) ?_
              exact ⟨0, false, rfl, rfl, .inr ⟨rfl, mkS_bad (by rw [bare6, vz3 heq]; all_goals simp)⟩⟩
          · have hnq : (v.n == 0) = false := hn
            conv => whnf
            refine bindP_of (leave0 (by rfl)) ?_
            exact ⟨0, false, rfl, rfl, .inr ⟨rfl, mkS_bad (by rw [bare6, vz2 hnq]; all_goals simp)⟩⟩
        · have hkq : (v.kind == 0) = false := hk
          conv => whnf
          refine bindP_of (leave0 (by rfl)) ?_
          exact ⟨0, false, rfl, rfl, .inr ⟨rfl, mkS_bad (by rw [bare6, vz1 hkq]; all_goals simp)⟩⟩
      · rw [eqG53]
        conv => whnf
        refine br_case (fun hk => ?_) (fun hk => ?_) <;> (try rw [hk])
        · have hkq : (v.kind == 0) = true := hk
          conv => whnf
          refine br_case (fun hn => ?_) (fun hn => ?_) <;> (try rw [hn])
          · have hnq : (v.n == 0) = true := hn
            conv => whnf
            refine br_case (fun he => ?_) (fun he => ?_) <;> (try rw [he])
            · have heq : eB v.s = true := he
              conv => whnf
              have hz : vz v = true := vz0 hkq hnq heq
              have hbare : bareS ⟨6, a, b, sep, v⟩ = true := by rw [bare6, hz]
              refine callK0 (by kernel_rfl) rfl rfl (by rfl) ktext_ok rfl ?_
              conv => whnf
              refine callK_of (ids := [0]) (us := [0]) (rs := [⟨[.ext (ks.map vi) ks.length], .is 36, true⟩]) (args' := [vi a, .ptr 0 0]) (by kernel_rfl) (by rfl) (by rfl) (by rfl) (by rfl) (at_ok ks a) (by rfl) (Nat.le_refl _) ?_
              conv => whnf
              refine br_case (fun g1 => ?_) (fun g1 => ?_) <;> (try rw [g1])
              · have g1q : (atS ks a == 4) = true := g1
                conv => whnf
                refine callK_of (ids := [0]) (us := [0]) (rs := [⟨[.ext (ks.map vi) ks.length], .is 36, true⟩]) (args' := [vi b, .ptr 0 0]) (by kernel_rfl) (by rfl) (by rfl) (by rfl) (by rfl) (at_ok ks b) (by rfl) (Nat.le_refl _) ?_
                conv => whnf
                refine br_case (fun g2 => ?_) (fun g2 => ?_) <;> (try rw [g2])
                · have g2q : (atS ks b == 4) = true := g2
                  conv => whnf
                  refine callK0 (by kernel_rfl) rfl rfl (by rfl) (valid_ok sep hs) rfl ?_
                  conv => whnf
                  refine bindP_of (leave0 (by rfl)) ?_
                  refine ⟨4, validU sep, rfl, rfl, ?_⟩
                  rw [mkS6 hbare]
                  cases hvv : validU sep with
                  | true => exact .inl ⟨rfl, by rw [if_pos ⟨by simpa using g1q, by simpa using g2q, rfl⟩]⟩
                  | false => exact .inr ⟨rfl, by rw [if_neg (fun e => by simp at e)]⟩
                · have g2q : (atS ks b == 4) = false := g2
                  conv => whnf
                  refine bindP_of (leave0 (by rfl)) ?_
                  exact ⟨_, false, rfl, rfl, .inr ⟨rfl, by rw [mkS6 hbare, if_neg (fun e => by rw [e.2.1] at g2q; simp at g2q)]⟩⟩
              · have g1q : (atS ks a == 4) = false := g1
                conv => whnf
                refine bindP_of (leave0 (by rfl)) ?_
                exact ⟨_, false, rfl, rfl, .inr ⟨rfl, by rw [mkS6 hbare, if_neg (fun e => by rw [e.1] at g1q; simp at g1q)]⟩⟩
            · have heq : eB v.s = false := he
              conv => whnf
              refine bindP_of (leave0 (by rfl)) ?_
              exact ⟨0, false, rfl, rfl, .inr ⟨rfl, mkS_bad (by rw [bare6, vz3 heq]; all_goals simp)⟩⟩
          · have hnq : (v.n == 0) = false := hn
            conv => whnf
            refine bindP_of (leave0 (by rfl)) ?_
            exact ⟨0, false, rfl, rfl, .inr ⟨rfl, mkS_bad (by rw [bare6, vz2 hnq]; all_goals simp)⟩⟩
        · have hkq : (v.kind == 0) = false := hk
          conv => whnf
          refine bindP_of (leave0 (by rfl)) ?_
          exact ⟨0, false, rfl, rfl, .inr ⟨rfl, mkS_bad (by rw [bare6, vz1 hkq]; all_goals simp)⟩⟩
    · refine br_case (fun hc => ?_) (fun hc => ?_) <;> (try rw [hc]) <;> (conv => whnf)
      · rw [eqG53]
        conv => whnf
        refine br_case (fun hk => ?_) (fun hk => ?_) <;> (try rw [hk])
        · have hkq : (v.kind == 0) = true := hk
          conv => whnf
          refine br_case (fun hn => ?_) (fun hn => ?_) <;> (try rw [hn])
          · have hnq : (v.n == 0) = true := hn
            conv => whnf
            refine br_case (fun he => ?_) (fun he => ?_) <;> (try rw [he])
            · have heq : eB v.s = true := he
              conv => whnf
              have hz : vz v = true := vz0 hkq hnq heq
              have hbare : bareS ⟨6, a, b, sep, v⟩ = true := by rw [bare6, hz]
              refine callK0 (by kernel_rfl) rfl rfl (by rfl) ktext_ok rfl ?_
              conv => whnf
              refine callK_of (ids := [0]) (us := [0]) (rs := [⟨[.ext (ks.map vi) ks.length], .is 36, true⟩]) (args' := [vi a, .ptr 0 0]) (by kernel_rfl) (by rfl) (by rfl) (by rfl) (by rfl) (at_ok ks a) (by rfl) (Nat.le_refl _) ?_
              conv => whnf
              refine br_case (fun g1 => ?_) (fun g1 => ?_) <;> (try rw [g1])
              · have g1q : (atS ks a == 4) = true := g1
                conv => whnf
                refine callK_of (ids := [0]) (us := [0]) (rs := [⟨[.ext (ks.map vi) ks.length], .is 36, true⟩]) (args' := [vi b, .ptr 0 0]) (by kernel_rfl) (by rfl) (by rfl) (by rfl) (by rfl) (at_ok ks b) (by rfl) (Nat.le_refl _) ?_
                conv => whnf
                refine br_case (fun g2 => ?_) (fun g2 => ?_) <;> (try rw [g2])
                · have g2q : (atS ks b == 4) = true := g2
                  conv => whnf
                  refine callK0 (by kernel_rfl) rfl rfl (by rfl) (valid_ok sep hs) rfl ?_
                  conv => whnf
                  refine bindP_of (leave0 (by rfl)) ?_
                  refine ⟨4, validU sep, rfl, rfl, ?_⟩
                  rw [mkS6 hbare]
                  cases hvv : validU sep with
                  | true => exact .inl ⟨rfl, by rw [if_pos ⟨by simpa using g1q, by simpa using g2q, rfl⟩]⟩
                  | false => exact .inr ⟨rfl, by rw [if_neg (fun e => by simp at e)]⟩
                · have g2q : (atS ks b == 4) = false := g2
                  conv => whnf
                  refine bindP_of (leave0 (by rfl)) ?_
                  exact ⟨_, false, rfl, rfl, .inr ⟨rfl, by rw [mkS6 hbare, if_neg (fun e => by rw [e.2.1] at g2q; simp at g2q)]⟩⟩
              · have g1q : (atS ks a == 4) = false := g1
                conv => whnf
                refine bindP_of (leave0 (by rfl)) ?_
                exact ⟨_, false, rfl, rfl, .inr ⟨rfl, by rw [mkS6 hbare, if_neg (fun e => by rw [e.1] at g1q; simp at g1q)]⟩⟩
            · have heq : eB v.s = false := he
              conv => whnf
              refine bindP_of (leave0 (by rfl)) ?_
              exact ⟨0, false, rfl, rfl, .inr ⟨rfl, mkS_bad (by rw [bare6, vz3 heq]; all_goals simp)⟩⟩
          · have hnq : (v.n == 0) = false := hn
            conv => whnf
            refine bindP_of (leave0 (by rfl)) ?_
            exact ⟨0, false, rfl, rfl, .inr ⟨rfl, mkS_bad (by rw [bare6, vz2 hnq]; all_goals simp)⟩⟩
        · have hkq : (v.kind == 0) = false := hk
          conv => whnf
          refine bindP_of (leave0 (by rfl)) ?_
          exact ⟨0, false, rfl, rfl, .inr ⟨rfl, mkS_bad (by rw [bare6, vz1 hkq]; all_goals simp)⟩⟩
      · rw [eqG53]
        conv => whnf
        refine br_case (fun hk => ?_) (fun hk => ?_) <;> (try rw [hk])
        · have hkq : (v.kind == 0) = true := hk
          conv => whnf
          refine br_case (fun hn => ?_) (fun hn => ?_) <;> (try rw [hn])
          · have hnq : (v.n == 0) = true := hn
            conv => whnf
            refine br_case (fun he => ?_) (fun he => ?_) <;> (try rw [he])
            · have heq : eB v.s = true := he
              conv => whnf
              have hz : vz v = true := vz0 hkq hnq heq
              have hbare : bareS ⟨6, a, b, sep, v⟩ = true := by rw [bare6, hz]
              refine callK0 (by kernel_rfl) rfl rfl (by rfl) ktext_ok rfl ?_
              conv => whnf
              refine callK_of (ids := [0]) (us := [0]) (rs := [⟨[.ext (ks.map vi) ks.length], .is 36, true⟩]) (args' := [vi a, .ptr 0 0]) (by kernel_rfl) (by rfl) (by rfl) (by rfl) (by rfl) (at_ok ks a) (by rfl) (Nat.le_refl _) ?_
              conv => whnf
              refine br_case (fun g1 => ?_) (fun g1 => ?_) <;> (try rw [g1])
              · have g1q : (atS ks a == 4) = true := g1
                conv => whnf
                refine callK_of (ids := [0]) (us := [0]) (rs := [⟨[.ext (ks.map vi) ks.length], .is 36, true⟩]) (args' := [vi b, .ptr 0 0]) (by kernel_rfl) (by rfl) (by rfl) (by rfl) (by rfl) (at_ok ks b) (by rfl) (Nat.le_refl _) ?_
                conv => whnf
                refine br_case (fun g2 => ?_) (fun g2 => ?_) <;> (try rw [g2])
                · have g2q : (atS ks b == 4) = true := g2
                  conv => whnf
                  refine callK0 (by kernel_rfl) rfl rfl (by rfl) (valid_ok sep hs) rfl ?_
                  conv => whnf
                  refine bindP_of (leave0 (by rfl)) ?_
                  refine ⟨4, validU sep, rfl, rfl, ?_⟩
                  rw [mkS6 hbare]
                  cases hvv : validU sep with
                  | true => exact .inl ⟨rfl, by rw [if_pos ⟨by simpa using g1q, by simpa using g2q, rfl⟩]⟩
                  | false => exact .inr ⟨rfl, by rw [if_neg (fun e => by simp at e)]⟩
                · have g2q : (atS ks b == 4) = false := g2
                  conv => whnf
                  refine bindP_of (leave0 (by rfl)) ?_
                  exact ⟨_, false, rfl, rfl, .inr ⟨rfl, by rw [mkS6 hbare, if_neg (fun e => by rw [e.2.1] at g2q; simp at g2q)]⟩⟩
              · have g1q : (atS ks a == 4) = false := g1
                conv => whnf
                refine bindP_of (leave0 (by rfl)) ?_
                exact ⟨_, false, rfl, rfl, .inr ⟨rfl, by rw [mkS6 hbare, if_neg (fun e => by rw [e.1] at g1q; simp at g1q)]⟩⟩
            · have heq : eB v.s = false := he
              conv => whnf
              refine bindP_of (leave0 (by rfl)) ?_
              exact ⟨0, false, rfl, rfl, .inr ⟨rfl, mkS_bad (by rw [bare6, vz3 heq]; all_goals simp)⟩⟩
          · have hnq : (v.n == 0) = false := hn
            conv => whnf
            refine bindP_of (leave0 (by rfl)) ?_
            exact ⟨0, false, rfl, rfl, .inr ⟨rfl, mkS_bad (by rw [bare6, vz2 hnq]; all_goals simp)⟩⟩
        · have hkq : (v.kind == 0) = false := hk
          conv => whnf
          refine bindP_of (leave0 (by rfl)) ?_
          exact ⟨0, false, rfl, rfl, .inr ⟨rfl, mkS_bad (by rw [bare6, vz1 hkq]; all_goals simp)⟩⟩

/-- A word that is none. -/
theorem kindOf_none (inn : List Col) (ks : List Int) (o : Ins) (hw : o.word < 1 ∨ o.word ≥ 7) :
    fnK E0 63 [.ext (colsC inn) inn.length, .ext (ks.map vi) ks.length, .agg (insC o)] [] (kindOfR inn ks o) := by
  have hm : mkS inn ks o = none := by
    rw [mkS]
    split
    · rfl
    rw [if_neg (by omega), if_neg (by omega), if_neg (by omega), if_neg (by omega), if_neg (by omega)]
  conv => whnf
  refine br_case (fun g1 => ?_) (fun g1 => ?_) <;> (try rw [g1])
  · conv => whnf
    refine bindP_of (leave0 (by rfl)) ?_
    exact ⟨0, false, rfl, rfl, .inr ⟨rfl, hm⟩⟩
  have g1q : ¬ o.word < 1 := of_decide_eq_false g1
  conv => whnf
  refine br_case (fun g2 => ?_) (fun g2 => absurd (show o.word ≥ 7 by omega) (of_decide_eq_false g2))
  conv => whnf
  refine bindP_of (leave0 (by rfl)) ?_
  exact ⟨0, false, rfl, rfl, .inr ⟨rfl, hm⟩⟩

/-- op.kindOf -/
theorem kindOf_ok (inn : List Col) (ks : List Int) (o : Ins) (hs : o.sep.size < 4611686018427387904) (hv : o.val.s.size < 4611686018427387904) :
    ∃ k ok, FnOk E0 63 [.ext (colsC inn) inn.length, .ext (ks.map vi) ks.length, .agg (insC o)] [] (.tup [vi k, vb ok]) [] ∧ ((ok = true ∧ mkS inn ks o = some k) ∨ (ok = false ∧ mkS inn ks o = none)) := by
  have h : fnK E0 63 [.ext (colsC inn) inn.length, .ext (ks.map vi) ks.length, .agg (insC o)] [] (kindOfR inn ks o) := by
    by_cases hw : o.word < 1 ∨ o.word ≥ 7
    · exact kindOf_none inn ks o hw
    obtain ⟨w, a, b, sep, v⟩ := o
    have : w = 1 ∨ w = 2 ∨ w = 3 ∨ w = 4 ∨ w = 5 ∨ w = 6 := by simp only at hw; omega
    rcases this with rfl | rfl | rfl | rfl | rfl | rfl
    · exact kindOf_1 inn ks a b sep v hs hv
    · exact kindOf_2 inn ks a b sep v hs hv
    · exact kindOf_3 inn ks a b sep v hs hv
    · exact kindOf_4 inn ks a b sep v hs hv
    · exact kindOf_5 inn ks a b sep v hs hv
    · exact kindOf_6 inn ks a b sep v hs hv
  obtain ⟨r, out, h1, k, ok, rfl, rfl, h2⟩ := fnK_ok pr0 np0 mo0 h
  exact ⟨k, ok, h1, h2⟩
end Go.AI
