/-
  From what a row says of an argument to the machine's values: lists of structs, strings, numbers.
-/
import Derived.Test.YtjpfohbfklghdaaGreatDoorC5
import Derived.Test.YtjpfohbfklghdaaGreatDoorS1
import Derived.Deep.Slices
set_option linter.all false
set_option linter.unusedVariables false
namespace Go.AI
open Go.ChangeShapes Go.WideShapes Go.Deep

section
variable {H : Type} {enc : TypeId × Value → H} {P : Program} {w : World} {base : Nat} {spare : Nat → Bool} {held : Bool} {S : Nat → Prop} {ρ : Map}

/-- Cells that are values of their own, nothing of a frame's inside. -/
def RepP (S : Nat → Prop) (ρ : Map) (w : World) : List AV → List Value → Prop
  | [], [] => True
  | a :: as, v :: vs => (Rep S ρ w a v ∧ plainV a = true ∧ one a = true) ∧ RepP S ρ w as vs
  | _, _ => False

theorem RepP.length : ∀ {as : List AV} {vs : List Value}, RepP S ρ w as vs → as.length = vs.length
  | [], [], _ => rfl
  | a :: as, v :: vs, h => by simp only [List.length_cons, RepP.length h.2]
  | [], _ :: _, h => h.elim
  | _ :: _, [], h => h.elim
theorem RepP.get : ∀ {as : List AV} {vs : List Value}, RepP S ρ w as vs → ∀ (j : Nat) (a : AV) (v : Value), as[j]? = some a → vs[j]? = some v → Rep S ρ w a v ∧ plainV a = true ∧ one a = true
  | [], [], _, j, a, v, h, _ => by simp at h
  | a :: as, v :: vs, h, 0, b, u, h1, h2 => by simp at h1 h2; subst h1; subst h2; exact h.1
  | a :: as, v :: vs, h, j + 1, b, u, h1, h2 => RepP.get h.2 j b u (by simpa using h1) (by simpa using h2)
  | [], _ :: _, h, _, _, _, _, _ => h.elim
  | _ :: _, [], h, _, _, _, _, _ => h.elim
theorem RepP.append : ∀ {as bs : List AV} {vs us : List Value}, RepP S ρ w as vs → RepP S ρ w bs us → RepP S ρ w (as ++ bs) (vs ++ us)
  | [], bs, [], us, _, h => h
  | a :: as, bs, v :: vs, us, h, h' => ⟨h.1, RepP.append h.2 h'⟩
  | [], _, _ :: _, _, h, _ => h.elim
  | _ :: _, _, [], _, h, _ => h.elim

theorem repP_slice {a : Addr} {len cap z : Nat} (hS : ∀ b, b < w.heap.size → S b) (hl : len ≤ cap) {α : Type} [Inhabited α] (C : α → List AV) (hz : ∀ x, (C x).length = z) {Q : α → Prop}
    (h : ∀ i, i < len → ∃ x cs, w.cells? base (a.add (i * z)) z = some cs ∧ RepP S ρ w (C x) cs ∧ Q x) :
    ∃ l : List α, l.length = len ∧ Rep S ρ w (.ext (l.flatMap C) len) (.slice (some a) len cap) ∧ ∀ x ∈ l, Q x := by
  obtain ⟨f, hf'⟩ := choose_lt (p := fun i x => ∃ cs, w.cells? base (a.add (i * z)) z = some cs ∧ RepP S ρ w (C x) cs ∧ Q x) h
  have hf : ∀ i, i < len → ∃ cs, w.cells? base (a.add (i * z)) z = some cs ∧ RepP S ρ w (C (f i)) cs := fun i hi => by
    obtain ⟨cs, h1, h2, _⟩ := hf' i hi
    exact ⟨cs, h1, h2⟩
  refine ⟨(List.range len).map f, by simp, ?_, fun x hx => by
    obtain ⟨i, hi, rfl⟩ := List.mem_map.1 hx
    obtain ⟨_, _, _, h3⟩ := hf' i (List.mem_range.1 hi)
    exact h3⟩
  -- each cell
  have hcell : ∀ (j : Nat) (c : AV), (((List.range len).map f).flatMap C)[j]? = some c → ∃ v, w.cell? (a.add j) = some v ∧ Rep S ρ w c v ∧ plainV c = true ∧ one c = true := by
    have hz0 : ∀ (j : Nat) (c : AV), (((List.range len).map f).flatMap C)[j]? = some c → 0 < z := by
      intro j c hj
      rcases Nat.eq_zero_or_pos z with h0 | h0
      · have := (List.getElem?_eq_some_iff.1 hj).1
        rw [len_cells C z hz, h0] at this
        omega
      · exact h0
    intro j c hj
    have hzp := hz0 j c hj
    have hjl := (List.getElem?_eq_some_iff.1 hj).1
    rw [len_cells C z hz, List.length_map, List.length_range] at hjl
    have hi : j / z < len := Nat.div_lt_of_lt_mul (by rw [Nat.mul_comm]; exact hjl)
    obtain ⟨cs, h1, h2⟩ := hf (j / z) hi
    obtain ⟨_, hcl, hcc⟩ := World.cells?_some h1
    obtain ⟨rest, hrest⟩ := getD_cells C z hz ((List.range len).map f) (j / z) (f (j / z)) (by simp [hi])
    have hmod : j % z < z := Nat.mod_lt _ hzp
    have hdm : j / z * z + j % z = j := by rw [Nat.mul_comm]; exact Nat.div_add_mod j z
    have hc : (C (f (j / z)))[j % z]? = some c := by
      have : (((List.range len).map f).flatMap C).drop (j / z * z) = C (f (j / z)) ++ rest := hrest
      have h3 : ((((List.range len).map f).flatMap C).drop (j / z * z))[j % z]? = some c := by rw [List.getElem?_drop, hdm]; exact hj
      rw [this, List.getElem?_append_left (by rw [hz]; exact hmod)] at h3
      exact h3
    have hv := hcc (j % z) hmod
    rw [Deep.add_add, hdm] at hv
    have hcs : j % z < cs.length := by omega
    obtain ⟨k1, k2, k3⟩ := h2.get (j % z) c cs[j % z] hc (List.getElem?_eq_getElem hcs)
    exact ⟨_, hv.trans (List.getElem?_eq_getElem hcs), k1, k2, k3⟩
  have hblk : ∀ j, (a.add j).block = a.block := by intro j; unfold Addr.add; split <;> rfl
  refine .ext (fun j => (w.cell? (a.add j)).getD undef) hl (fun _ => rfl) ?_ ?_ ?_ ?_
  · rw [plainL_all, List.all_eq_true]
    intro c hc
    obtain ⟨j, hj⟩ := List.getElem?_of_mem hc
    obtain ⟨v, _, _, h3, _⟩ := hcell j c hj
    exact h3
  · intro c hc
    obtain ⟨j, hj⟩ := List.getElem?_of_mem hc
    obtain ⟨v, _, _, _, h4⟩ := hcell j c hj
    exact h4
  · intro hne
    refine ⟨a, rfl, ?_, fun j hj => ?_⟩
    · obtain ⟨c, hc⟩ : ∃ c, (((List.range len).map f).flatMap C)[0]? = some c := ⟨_, List.getElem?_eq_getElem (List.length_pos_iff.2 hne)⟩
      obtain ⟨v, h1, _⟩ := hcell 0 c hc
      refine hS _ ?_
      unfold World.cell? at h1
      rw [hblk] at h1
      split at h1
      · rename_i hb
        exact (Array.getElem?_eq_some_iff.1 hb).1
      · cases h1
    · obtain ⟨v, h1, _⟩ := hcell j _ (List.getElem?_eq_getElem hj)
      rw [h1]; rfl
  · intro j c hj
    obtain ⟨v, h1, h2, _⟩ := hcell j c hj
    rw [h1]
    exact h2

theorem repP_int {t : TypeId} {fuel : Nat} {k : IntKind} {cs : List Value} {x : DataW H × List MemPlace} (ht : P.underlying t = some (.int k)) (h : DataW.trod enc P w base spare held fuel t cs = some x) :
    ∃ n : Int, cs = [.int k n] ∧ (Lit.int k n).wf = true := by
  obtain ⟨n, h1, _, h2⟩ := DataW.trod_int ht h
  exact ⟨n, h1, h2⟩
theorem repP_str {t : TypeId} {fuel : Nat} {cs : List Value} {x : DataW H × List MemPlace} (ht : P.underlying t = some .string) (h : DataW.trod enc P w base spare held fuel t cs = some x) :
    ∃ s : ByteArray, cs = [.string s] ∧ s.size ≤ maxLen := by
  obtain ⟨n, h1, _, h2⟩ := DataW.trod_string ht h
  exact ⟨n, h1, h2⟩

/-- A struct's field, read. -/
theorem trod_field {t : TypeId} {fs : Array Field} {fuel : Nat} {cs : List Value} {x : DataW H × List MemPlace} (ht : P.underlying t = some (.struct fs)) (h : DataW.trod enc P w base spare held fuel t cs = some x) :
    cs.length = P.cellsOf t ∧ ∀ (i : Nat) (f : Field), fs[i]? = some f → ∃ n y, DataW.trod enc P w base spare held n f.type ((cs.drop f.offset).take (P.cellsOf f.type)) = some y := by
  obtain ⟨xs, n, _, _, h1, h2, h3⟩ := DataW.trod_struct ht h
  refine ⟨h1, fun i f hf => ?_⟩
  have := h3 i f hf
  have hi : i < xs.length := by rw [h2]; exact (Array.getElem?_eq_some_iff.1 hf).1
  rw [List.getElem?_eq_getElem hi] at this
  exact ⟨n, _, this⟩

theorem RepP.val1 {v : Value} (h : flat v = true) : RepP S ρ w [.val v] [v] := ⟨⟨.val h, rfl, by cases v <;> first | rfl | simp [flat] at h⟩, trivial⟩

end
end Go.AI
