/-
  strings.Builder's copyCheck and String, as contracts of the machine of values. Conditions: those that each theorem lists (lengths far below the greatest).
-/
import Derived.Test.YtjpfohbfklghdaaGreatDoorK1
set_option linter.all false
set_option linter.unusedVariables false
set_option maxRecDepth 100000
namespace Go.AI
open Go.Proofs Go.RowKit

/-- From an outcome to what a contract says. -/
theorem fnOk_of {S O : Nat → Prop} {ρ : Map} {w w' : World} {rows out : List Row} {e : Eff} {v : Value} {r : AV} (hmr : MR S O ρ (fun i => rows[i]?) w) (hnone : ∀ i, rows.length ≤ i → ρ i = none)
    (h : Outc S O ρ w (fun i => rows[i]?) rows.length e v w') (hn : (e.upd.map (·.1)).Nodup) (hl : ∀ p ∈ e.upd, p.1 < rows.length) (hr : e.val = r) (ho : applyE rows e = out) :
    ∃ v' ρ', Ending.returned v = .returned v' ∧ (∀ i, i < rows.length → ρ' i = ρ i) ∧ (∀ i, out.length ≤ i → ρ' i = none) ∧ Kp O w w' ∧ Rep S ρ' w' r v' ∧ MR S O ρ' (fun i => out[i]?) w' := by
  obtain ⟨ρ', g1, g2, g3, g4, g5⟩ := h
  have hal : out.length = rows.length + e.new.length := by rw [← ho]; exact (applyE_get hn hl 0).2
  refine ⟨v, ρ', rfl, fun i hi => ?_, fun i hi => g2 i (hnone i (by omega)) (by omega), g3, hr ▸ g4, ?_⟩
  · obtain ⟨x, hx⟩ := hmr.known i _ (List.getElem?_eq_getElem hi)
    rw [hx]; exact g1 i x hx
  · have : (fun i => out[i]?) = applyM (fun i => rows[i]?) rows.length e := by
      funext i; rw [← ho]; exact (applyE_get hn hl i).1
    rw [this]; exact g5

theorem args1 {S : Nat → Prop} {ρ : Map} {w : World} {a : AV} {vals : Array Value} (h : RepL S ρ w [a] vals.toList) : ∃ v, vals = #[v] ∧ Rep S ρ w a v := by
  obtain ⟨l⟩ := vals
  match l, h with
  | [v], h => exact ⟨v, rfl, h.1⟩

theorem ccF_ok (b : AV) (rs : List Row) : FnOk E0 163 [.ptr 0 0] (⟨[.val (.pointer none), b], .is 104, true⟩ :: rs) (.tup []) (⟨[.ptr 0 0, b], .is 104, true⟩ :: rs) := by
  intro S O ρ w vals hfr hgl hargs hmr hnone
  obtain ⟨v, rfl, hv⟩ := args1 hargs
  cases hv with
  | ptr h =>
    rename_i L
    obtain ⟨⟨k1, k2, k3, cs, ty, fr, k4, k5, k6, k7, k8, k9⟩, hO⟩ := hmr.ok 0 _ _ rfl rfl h
    obtain ⟨v0, hv0, hr0⟩ := k9 0 _ rfl
    have hty : 104 = ty := k7 104 rfl
    subst hty
    have hc : w.cell? ⟨L.blk, 0, none⟩ = some (.pointer none) := by
      simp only [World.cell?, k4]
      have : v0 = .pointer none := hr0.val_inv.1
      rw [this] at hv0
      simpa using hv0
    have hsz : 2 ≤ cs.size := by
      have : L.size = 2 := k2
      omega
    have := cc_fresh L.blk cs.size w hc (by simp [World.shape?, k4]) hsz (by
      have := k6 0 (by omega)
      simp only [World.frozen?, k4]
      simpa using this)
    refine this.mono ?_
    rintro e w' ⟨rfl, rfl⟩
    refine fnOk_of (e := ⟨.tup [], [(0, { (⟨[.val (.pointer none), b], .is 104, true⟩ : Row) with cells := setCells [.val (.pointer none), b] 0 [.ptr 0 0] })], [], [0]⟩) hmr hnone ?_ (by simp) (by simp) rfl ?_
    · have hup := Outc.upd hmr hfr (id := 0) (r := ⟨[.val (.pointer none), b], .is 104, true⟩) rfl rfl h (next := (⟨[.val (.pointer none), b], .is 104, true⟩ :: rs : List Row).length) (ns := []) (by simp) (fun _ h => by cases h) (fun k hk => by simp at hk)
        (off := 0) (vs := [.ptr 0 0]) (us := [.pointer (some ⟨L.blk, L.base + 0, none⟩)]) (by simp) (by simp [one]) (fun ρ' hle _ => ⟨.ptr (hle _ _ h), trivial⟩) (a := .tup []) (v := .tuple #[]) [0] (fun ρ' _ => .tup rfl (fun j c v hj _ => by simp at hj))
      exact hup
    · simp [applyE, setCells]

theorem ccU_ok (b : AV) (ty : RT) (rs : List Row) : FnOk E0 163 [.ptr 0 0] (⟨[.ptr 0 0, b], ty, true⟩ :: rs) (.tup []) (⟨[.ptr 0 0, b], ty, true⟩ :: rs) := by
  intro S O ρ w vals hfr hgl hargs hmr hnone
  obtain ⟨v, rfl, hv⟩ := args1 hargs
  cases hv with
  | ptr h =>
    rename_i L
    obtain ⟨⟨k1, k2, k3, cs, tyb, fr, k4, k5, k6, k7, k8, k9⟩, hO⟩ := hmr.ok 0 _ _ rfl rfl h
    obtain ⟨v0, hv0, hr0⟩ := k9 0 _ rfl
    have hv0' : v0 = .pointer (some ⟨L.blk, 0, none⟩) := by
      cases hr0 with
      | ptr h' =>
        rw [h] at h'
        injection h' with h'
        injection h' with h'
        subst h'
        rfl
    have hc : w.cell? ⟨L.blk, 0, none⟩ = some (.pointer (some ⟨L.blk, 0, none⟩)) := by
      simp only [World.cell?, k4]
      rw [hv0'] at hv0
      simpa using hv0
    refine (cc_used L.blk w hc).mono ?_
    rintro e w' ⟨rfl, rfl⟩
    exact ⟨_, ρ, rfl, fun _ _ => rfl, hnone, .refl _ _, .tup rfl (fun j c v hj _ => by simp at hj), hmr⟩

theorem heap_freeze (w : World) (g n b : Nat) (hb : b ≠ g) : (w.drew.freeze ⟨g, 0, none⟩ n).heap[b]? = w.heap[b]? := by
  unfold World.freeze
  split
  · rfl
  · show (Array.modify w.heap g _)[b]? = _
    rw [Array.getElem?_modify, if_neg (Ne.symm hb)]

theorem str_ok (a : AV) (ty : RT) (l : List UInt8) (h0 : l ≠ []) (h63 : l.length ≤ 9223372036854775807) :
    FnOk E0 69 [.ptr 0 0] [⟨[a, .sl 1 0 l.length 1], ty, true⟩, ⟨l.map fun x => vc x.toNat, .is 5, true⟩] (vs ⟨⟨l⟩⟩) [⟨[a, .sl 1 0 l.length 1], ty, true⟩, ⟨l.map fun x => vc x.toNat, .is 5, false⟩] := by
  intro S O ρ w vals hfr hgl hargs hmr hnone
  obtain ⟨v, rfl, hv⟩ := args1 hargs
  have hlp : 0 < l.length := List.length_pos_iff.2 h0
  cases hv with
  | ptr h =>
    rename_i L
    obtain ⟨⟨k1, k2, k3, cs, tyb, fr, k4, k5, k6, k7, k8, k9⟩, hO⟩ := hmr.ok 0 _ _ rfl rfl h
    obtain ⟨v1, hv1, hr1⟩ := k9 1 _ rfl
    obtain ⟨A, cap, x', rfl, hx, hlc, hcp, _⟩ := hr1.sl_inv
    obtain ⟨G, rfl, rfl, _, _⟩ := hcp (by omega)
    obtain ⟨⟨q1, q2, q3, cs', tyb', fr', q4, q5, q6, q7, q8, q9⟩, hO'⟩ := hmr.ok 1 _ _ rfl rfl hx
    have ht : 5 = tyb' := q7 5 rfl
    subst ht
    have hsz : l.length ≤ cs'.size := by
      have : G.size = (l.map fun x => vc x.toNat).length := q2
      rw [List.length_map] at this
      omega
    have hcell : ∀ j x, l[j]? = some x → w.cell? ((⟨G.blk, 0, none⟩ : Addr).add j) = some (.int .u8 x.toNat) := by
      intro j x hj
      obtain ⟨u, hu, hru⟩ := q9 j (vc x.toNat) (by show (l.map fun x => vc x.toNat)[j]? = _; rw [List.getElem?_map, hj]; rfl)
      have hue : u = .int .u8 x.toNat := hru.val_inv.1
      rw [hue] at hu
      have e : (⟨G.blk, 0, none⟩ : Addr).add j = ⟨G.blk, 0 + j, none⟩ := by
        unfold Addr.add
        split
        · rename_i hj0; subst hj0; rfl
        · rfl
      rw [e]
      simp only [World.cell?, q4]
      simpa using hu
    have hc1 : w.cell? ⟨L.blk, 1, none⟩ = some (.slice (some ⟨G.blk, 0, none⟩) l.length cap) := by
      simp only [World.cell?, k4]
      simpa using hv1
    have hcall := str_calls L.blk G.blk cap cs'.size l w hc1 (by simp [World.shape?, q4]) h0 hsz h63 (by omega) hcell
    refine hcall.mono ?_
    rintro e w' ⟨rfl, rfl⟩
    have hGO := hO' G rfl
    have hkeep : ∀ b, b ≠ G.blk → (w.drew.freeze ⟨G.blk, 0, none⟩ l.length).heap[b]? = w.heap[b]? := fun b hb => heap_freeze w _ _ b hb
    have hsize : (w.drew.freeze ⟨G.blk, 0, none⟩ l.length).heap.size = w.heap.size := by
      unfold World.freeze
      split
      · rfl
      · show (Array.modify w.heap _ _).size = _
        rw [Array.size_modify]
    have hos : (w.drew.freeze ⟨G.blk, 0, none⟩ l.length).os = w.os ∧ (w.drew.freeze ⟨G.blk, 0, none⟩ l.length).tape = w.tape ∧ (w.drew.freeze ⟨G.blk, 0, none⟩ l.length).output = w.output := by
      unfold World.freeze
      split <;> exact ⟨rfl, rfl, rfl⟩
    refine ⟨_, ρ, rfl, fun _ _ => rfl, hnone, ⟨hos.1, hos.2.1, hos.2.2, by omega, fun b hb hno => hkeep b (fun e => hno (e ▸ hGO.1))⟩, .val rfl, ?_⟩
    refine hmr.step (.refl _) (fun b hb => hkeep b (fun e => hGO.2 (e ▸ hb))) (fun id r hr => ?_) (fun id id' r r' L1 L2 hr hr' hl hl' h1 h2 e => ?_)
    · match id, hr with
      | 0, hr =>
        cases hr
        refine .inl ⟨rfl, fun _ L1 hL1 => hkeep _ (fun e => ?_)⟩
        have := hmr.inj 0 1 _ _ L1 G rfl rfl rfl rfl hL1 hx e
        omega
      | 1, hr =>
        cases hr
        exact .inr ⟨⟨_, hx⟩, fun hl => by cases hl⟩
    · match id, id', hr, hr' with
      | 0, 0, _, _ => rfl
      | 1, _, hr, _ => cases hr; cases hl
      | 0, 1, _, hr' => cases hr'; cases hl'
end Go.AI
