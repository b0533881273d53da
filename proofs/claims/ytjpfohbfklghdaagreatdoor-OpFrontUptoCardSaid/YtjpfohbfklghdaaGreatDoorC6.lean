/-
  A loop's state at its head, rows named by where they come from.
-/
import Derived.Test.YtjpfohbfklghdaaGreatDoorC5
set_option linter.all false
set_option linter.unusedVariables false
namespace Go.AI

/-- The rows qs stand at the places ns; no row leads to another. -/
def AllRows (rows : List Row) : List Nat → List Row → Prop
  | [], [] => True
  | n :: ns, q :: qs => (∃ r, rows[n]? = some r ∧ r = q ∧ idsL r.cells = []) ∧ AllRows rows ns qs
  | _, _ => False
def holdsN (ns : List Nat) (t : Nat → AV) : List (Nat × AV) → Prop
  | [] => True
  | p :: l => (ren (index ns) (t p.1) = p.2 ∧ (idsV (t p.1)).all ns.contains = true) ∧ holdsN ns t l

theorem AllRows.length {rows : List Row} : ∀ {ns : List Nat} {qs : List Row}, AllRows rows ns qs → qs.length = ns.length
  | [], [], _ => rfl
  | n :: ns, q :: qs, h => by simp only [List.length_cons, AllRows.length h.2]
  | [], _ :: _, h => h.elim
  | _ :: _, [], h => h.elim
theorem AllRows.get {rows : List Row} : ∀ {ns : List Nat} {qs : List Row}, AllRows rows ns qs → ∀ (i : Nat) (q : Row), qs[i]? = some q → rows[ns.getD i 0]? = some q ∧ idsL q.cells = []
  | [], [], _, i, q, h => by simp at h
  | n :: ns, p :: qs, h, 0, q, hq => by
    simp at hq; subst hq
    obtain ⟨r, h1, rfl, h2⟩ := h.1
    exact ⟨by simpa using h1, h2⟩
  | n :: ns, p :: qs, h, i + 1, q, hq => by
    have := AllRows.get h.2 i q (by simpa using hq)
    simpa using this
  | [], _ :: _, h, _, _, _ => h.elim
  | _ :: _, [], h, _, _, _ => h.elim
theorem holdsN_all {ns : List Nat} {t : Nat → AV} : ∀ {l : List (Nat × AV)}, holdsN ns t l → ∀ p ∈ l, ren (index ns) (t p.1) = p.2 ∧ (idsV (t p.1)).all ns.contains = true
  | [], _, p, hp => by simp at hp
  | q :: l, h, p, hp => by
    rcases List.mem_cons.1 hp with rfl | hp
    · exact h.1
    · exact holdsN_all h.2 p hp

theorem cln_ns {k : Nat} {t : Nat → AV} {rows : List Row} {l : List (Nat × AV)} (ns : List Nat) {qs : List Row} (hnd : ns.Nodup) (hk : ∀ i, i < k → ns[i]? = some i) (hq : AllRows rows ns qs) (hl : holdsN ns t l) : Cln k ⟨t, rows⟩ ⟨tmps l, qs⟩ := by
  have hlen := hq.length
  have hidx : ∀ id, id ∈ ns → index ns id < qs.length ∧ ns.getD (index ns id) 0 = id := fun id hid => by
    have h1 : index ns id < ns.length := List.idxOf_lt_length_of_mem hid
    refine ⟨by rw [hlen]; exact h1, ?_⟩
    rw [List.getD_eq_getElem?_getD, List.getElem?_eq_getElem h1]
    exact List.getElem_idxOf h1
  refine cln (fun i => ns.getD i 0) (index ns) ?_ (fun i hi => ?_) (fun i j hi hj e => ?_) (fun i r2 h => ?_) ?_
  · rcases Nat.lt_or_ge k (qs.length + 1) with h | h
    · show k ≤ qs.length; omega
    · exfalso
      have := hk qs.length (by omega)
      rw [List.getElem?_eq_none (by omega)] at this
      cases this
  · show ns.getD i 0 = i
    rw [List.getD_eq_getElem?_getD, hk i hi]; rfl
  · have hi' : i < ns.length := by rw [← hlen]; exact hi
    have hj' : j < ns.length := by rw [← hlen]; exact hj
    have e' : ns[i] = ns[j] := by
      have : ns.getD i 0 = ns.getD j 0 := e
      rwa [List.getD_eq_getElem?_getD, List.getD_eq_getElem?_getD, List.getElem?_eq_getElem hi', List.getElem?_eq_getElem hj'] at this
    exact (List.getElem_inj hnd).1 e'
  · obtain ⟨h1, h2⟩ := hq.get i r2 h
    refine ⟨r2, h1, ?_, fun id hid => by rw [h2] at hid; simp at hid⟩
    cases r2
    simp only [renR] at *
    rw [renL_none _ _ h2]
  · have := tmps_spec (Q := fun d v => v = ren (index ns) (t d) ∧ ∀ id ∈ idsV (t d), id ∈ ns) l (fun p hp => by
      obtain ⟨h1, h2⟩ := holdsN_all hl p hp
      refine ⟨h1.symm, fun id hid => ?_⟩
      rw [List.all_eq_true] at h2
      simpa using h2 id hid)
    intro d
    rcases this d with h | ⟨h, h'⟩
    · exact .inl h
    · exact .inr ⟨h, fun id hid => hidx id (h' id hid)⟩

theorem mapO_cons {f : AV → Option AV} {c a : AV} {cs as : List AV} (h : f c = some a) (h' : mapO f cs = some as) : mapO f (c :: cs) = some (a :: as) := by
  simp only [mapO, h, h']

end Go.AI
