/-
  Codes as arguments: what a row's reading says of them, as the machine's values; their sizes by the bound.
-/
import Derived.Test.YtjpfohbfklghdaaGreatDoorRows
import Derived.Test.YtjpfohbfklghdaaGreatDoorB1
set_option linter.all false
set_option linter.unusedVariables false
set_option maxRecDepth 100000
namespace Go.AI
open Go.Proofs Go.ChangeShapes Go.WideShapes Go.Deep Go.Proofs.YtjpfohbfklghdaaGreatDoor

section
variable {H : Type} {enc : TypeId × Value → H} {w : World} {base : Nat} {spare : Nat → Bool} {held : Bool} {S : Nat → Prop} {ρ : Map}

theorem bulk_part {d : DataW H} {l : List (DataW H)} (h : d ∈ l) : Rows.uptoBulk d ≤ Rows.uptoBulkAll l := by
  induction l with
  | nil => cases h
  | cons x r ih =>
    simp only [Rows.uptoBulkAll]
    cases List.mem_cons.1 h with
    | inl e => subst e; omega
    | inr e => have := ih e; omega
theorem bulk_one (d : DataW H) : 1 ≤ Rows.uptoBulk d := by
  cases d with
  | lit l => cases l <;> simp [Rows.uptoBulk]
  | nil => simp [Rows.uptoBulk]
  | ptr d => simp [Rows.uptoBulk]
  | slice elems spare => simp [Rows.uptoBulk]
  | agg parts => simp [Rows.uptoBulk]
  | iface t d => simp [Rows.uptoBulk]
  | map entries => simp [Rows.uptoBulk]
  | held h => simp [Rows.uptoBulk]
theorem bulk_len (l : List (DataW H)) : l.length ≤ Rows.uptoBulkAll l := by
  induction l with
  | nil => simp [Rows.uptoBulkAll]
  | cons x r ih => have := bulk_one x; simp only [Rows.uptoBulkAll, List.length_cons]; omega

/-- A slice: its elements one by one, its length and theirs below its bulk. -/
theorem list_slice {P : Program} {t e : TypeId} {fuel z : Nat} {cs : List Value} {x : DataW H × List MemPlace} (hS : ∀ b, b < w.heap.size → S b) (ht : P.underlying t = some (.slice e)) (hz' : P.cellsOf e = z) (h : DataW.trod enc P w base spare held fuel t cs = some x)
    {α : Type} [Inhabited α] (C : α → List AV) (hz : ∀ x, (C x).length = z) {good : α → Nat → Prop} (hg : ∀ a n m, n ≤ m → good a n → good a m)
    (hx : ∀ (n : Nat) (cs' : List Value) (y : DataW H × List MemPlace), DataW.trod enc P w base spare held n e cs' = some y → ∃ x : α, RepP S ρ w (C x) cs' ∧ good x (Rows.uptoBulk y.1)) :
    ∃ (l : List α) (v : Value), cs = [v] ∧ Rep S ρ w (.ext (l.flatMap C) l.length) v ∧ l.length ≤ Rows.uptoBulk x.1 ∧ ∀ a ∈ l, good a (Rows.uptoBulk x.1) := by
  rcases open_slice ht h with ⟨rfl, rfl⟩ | ⟨a, len, cap, m, n, D, Pl, rfl, hb, hl, hm, hmm, rfl, hxx⟩
  · exact ⟨[], _, rfl, .ext (fun _ => undef) (Nat.le_refl _) (fun h => by simp at h) rfl (fun c hc => by simp at hc) (fun h => absurd rfl h) (fun j c hj => by simp at hj), by simp, by simp⟩
  · rw [hz'] at hxx
    have hbulk : ∀ i, i < len → Rows.uptoBulk (D i) ≤ Rows.uptoBulk (.slice ((List.range len).map D) ((List.range (m - len)).map fun j => D (len + j))) := fun i hi => by
      have := bulk_part (l := (List.range len).map D) (List.mem_map.2 ⟨i, List.mem_range.2 hi, rfl⟩)
      simp only [Rows.uptoBulk]
      omega
    obtain ⟨l, h1, h2, h3⟩ := repP_slice (base := base) (S := S) (ρ := ρ) (w := w) hS hl C hz (Q := fun a => good a (Rows.uptoBulk (.slice ((List.range len).map D) ((List.range (m - len)).map fun j => D (len + j))))) (fun i hi => by
      obtain ⟨cs', k1, k2⟩ := hxx i (by rw [hmm]; split <;> omega)
      obtain ⟨y, hy, hq⟩ := hx _ _ _ k2
      exact ⟨y, cs', k1, hy, hg _ _ _ (hbulk i hi) hq⟩)
    refine ⟨l, _, rfl, by rw [h1]; exact h2, ?_, h3⟩
    have := bulk_len ((List.range len).map D)
    simp only [List.length_map, List.length_range] at this
    simp only [Rows.uptoBulk]
    omega

theorem fieldB {P : Program} {t : TypeId} {fs : Array Field} {fuel : Nat} {cs : List Value} {x : DataW H × List MemPlace} (ht : P.underlying t = some (.struct fs)) (h : DataW.trod enc P w base spare held fuel t cs = some x) :
    cs.length = P.cellsOf t ∧ ∀ (i : Nat) (f : Field) (k : Nat), fs[i]? = some f → P.cellsOf f.type = k → ∃ n y, DataW.trod enc P w base spare held n f.type ((cs.drop f.offset).take k) = some y ∧ Rows.uptoBulk y.1 ≤ Rows.uptoBulk x.1 := by
  obtain ⟨xs, n, _, rfl, h1, h2, h3⟩ := DataW.trod_struct ht h
  refine ⟨h1, fun i f k hf hk => ?_⟩
  subst hk
  have := h3 i f hf
  have hi : i < xs.length := by rw [h2]; exact (Array.getElem?_eq_some_iff.1 hf).1
  rw [List.getElem?_eq_getElem hi] at this
  refine ⟨n, _, this, ?_⟩
  have := bulk_part (l := xs.map (·.1)) (List.mem_map.2 ⟨xs[i], List.getElem_mem hi, rfl⟩)
  simp only [Rows.uptoBulk]
  omega

theorem c9 : Tryz.prog.cellsOf 9 = 1 := by kernel_rfl
theorem c3 : Tryz.prog.cellsOf 3 = 1 := by kernel_rfl
theorem c51 : Tryz.prog.cellsOf 51 = 1 := by kernel_rfl
theorem c53 : Tryz.prog.cellsOf 53 = 3 := by kernel_rfl
theorem c55 : Tryz.prog.cellsOf 55 = 7 := by kernel_rfl
theorem c57 : Tryz.prog.cellsOf 57 = 3 := by kernel_rfl
theorem c59 : Tryz.prog.cellsOf 59 = 2 := by kernel_rfl
theorem c26 : Tryz.prog.cellsOf 26 = 3 := by kernel_rfl
theorem c22 : Tryz.prog.cellsOf 22 = 1 := by kernel_rfl
theorem c23 : Tryz.prog.cellsOf 23 = 1 := by kernel_rfl
theorem c24 : Tryz.prog.cellsOf 24 = 1 := by kernel_rfl

theorem repInt {n : Nat} {cs : List Value} {y : DataW H × List MemPlace} (h : DataW.trod enc Tryz.prog w base spare held n 3 cs = some y) : ∃ k : Int, cs = [.int .i64 k] := by
  obtain ⟨k, h1, _⟩ := DataW.trod_int Tryz.underlying3 h
  exact ⟨k, h1⟩
theorem repU {n : Nat} {cs : List Value} {y : DataW H × List MemPlace} (h : DataW.trod enc Tryz.prog w base spare held n 51 cs = some y) : ∃ k : Int, cs = [.int .u64 k] := by
  obtain ⟨k, h1, _⟩ := DataW.trod_int Tryz.underlying51 h
  exact ⟨k, h1⟩
theorem repStr {n : Nat} {cs : List Value} {y : DataW H × List MemPlace} (h : DataW.trod enc Tryz.prog w base spare held n 9 cs = some y) : ∃ s : ByteArray, cs = [.string s] ∧ s.size ≤ Rows.uptoBulk y.1 := by
  obtain ⟨s, h1, rfl, _⟩ := DataW.trod_string Tryz.underlying9 h
  refine ⟨s, h1, ?_⟩
  have e : s.data.toList.length = s.size := by rw [Array.length_toList]; rfl
  simp only [Rows.uptoBulk]
  omega
theorem rvI (k : Int) : Rep S ρ w (vi k) (.int .i64 k) ∧ plainV (vi k) = true ∧ one (vi k) = true := ⟨.val rfl, rfl, rfl⟩
theorem rvU (k : Int) : Rep S ρ w (vu k) (.int .u64 k) ∧ plainV (vu k) = true ∧ one (vu k) = true := ⟨.val rfl, rfl, rfl⟩
theorem rvS (k : ByteArray) : Rep S ρ w (vs k) (.string k) ∧ plainV (vs k) = true ∧ one (vs k) = true := ⟨.val rfl, rfl, rfl⟩

instance : Inhabited Vl := ⟨⟨0, 0, .empty⟩⟩
instance : Inhabited Col := ⟨⟨.empty, 0, 0⟩⟩
instance : Inhabited Ins := ⟨⟨0, 0, 0, .empty, default⟩⟩
instance : Inhabited Ot := ⟨⟨0, 0⟩⟩
instance : Inhabited Cd := ⟨⟨[], [], []⟩⟩

theorem col_of {n : Nat} {cs : List Value} {y : DataW H × List MemPlace} (h : DataW.trod enc Tryz.prog w base spare held n 57 cs = some y) : ∃ c : Col, RepP S ρ w (colC c) cs := by
  obtain ⟨hl, hf⟩ := fieldB Tryz.underlying57 h
  rw [c57] at hl
  match cs, hl with
  | [a, b, c], _ =>
    obtain ⟨_, _, h0, _⟩ := hf 0 _ 1 rfl c9
    obtain ⟨_, _, h1, _⟩ := hf 1 _ 1 rfl c3
    obtain ⟨_, _, h2, _⟩ := hf 2 _ 1 rfl c3
    obtain ⟨s, e0, _⟩ := repStr (cs := [a]) h0
    obtain ⟨t, e1⟩ := repInt (cs := [b]) h1
    obtain ⟨k, e2⟩ := repInt (cs := [c]) h2
    simp at e0 e1 e2
    subst e0; subst e1; subst e2
    exact ⟨⟨s, t, k⟩, rvS s, rvI t, rvI k, trivial⟩
theorem ot_of {n : Nat} {cs : List Value} {y : DataW H × List MemPlace} (h : DataW.trod enc Tryz.prog w base spare held n 59 cs = some y) : ∃ c : Ot, RepP S ρ w (otC c) cs := by
  obtain ⟨hl, hf⟩ := fieldB Tryz.underlying59 h
  rw [c59] at hl
  match cs, hl with
  | [a, b], _ =>
    obtain ⟨_, _, h0, _⟩ := hf 0 _ 1 rfl c3
    obtain ⟨_, _, h1, _⟩ := hf 1 _ 1 rfl c3
    obtain ⟨t, e0⟩ := repInt (cs := [a]) h0
    obtain ⟨k, e1⟩ := repInt (cs := [b]) h1
    simp at e0 e1
    subst e0; subst e1
    exact ⟨⟨t, k⟩, rvI t, rvI k, trivial⟩
theorem val_of {n : Nat} {cs : List Value} {y : DataW H × List MemPlace} (h : DataW.trod enc Tryz.prog w base spare held n 53 cs = some y) : ∃ v : Vl, RepP S ρ w (vlC v) cs ∧ v.s.size ≤ Rows.uptoBulk y.1 := by
  obtain ⟨hl, hf⟩ := fieldB Tryz.underlying53 h
  rw [c53] at hl
  match cs, hl with
  | [a, b, c], _ =>
    obtain ⟨_, _, h0, _⟩ := hf 0 _ 1 rfl c3
    obtain ⟨_, _, h1, _⟩ := hf 1 _ 1 rfl c51
    obtain ⟨_, _, h2, hb⟩ := hf 2 _ 1 rfl c9
    obtain ⟨k, e0⟩ := repInt (cs := [a]) h0
    obtain ⟨u, e1⟩ := repU (cs := [b]) h1
    obtain ⟨s, e2, hs⟩ := repStr (cs := [c]) h2
    simp at e0 e1 e2
    subst e0; subst e1; subst e2
    exact ⟨⟨k, u, s⟩, ⟨rvI k, rvU u, rvS s, trivial⟩, Nat.le_trans hs hb⟩
def goodI (o : Ins) (n : Nat) : Prop := o.sep.size ≤ n ∧ o.val.s.size ≤ n
theorem ins_of {n : Nat} {cs : List Value} {y : DataW H × List MemPlace} (h : DataW.trod enc Tryz.prog w base spare held n 55 cs = some y) : ∃ c : Ins, RepP S ρ w (insC c) cs ∧ goodI c (Rows.uptoBulk y.1) := by
  obtain ⟨hl, hf⟩ := fieldB Tryz.underlying55 h
  rw [c55] at hl
  match cs, hl with
  | [a, b, c, d, e, f, g], _ =>
    obtain ⟨_, _, h0, _⟩ := hf 0 _ 1 rfl c3
    obtain ⟨_, _, h1, _⟩ := hf 1 _ 1 rfl c3
    obtain ⟨_, _, h2, _⟩ := hf 2 _ 1 rfl c3
    obtain ⟨_, _, h3, hb3⟩ := hf 3 _ 1 rfl c9
    obtain ⟨_, _, h4, hb4⟩ := hf 4 _ 3 rfl c53
    obtain ⟨w0, e0⟩ := repInt (cs := [a]) h0
    obtain ⟨w1, e1⟩ := repInt (cs := [b]) h1
    obtain ⟨w2, e2⟩ := repInt (cs := [c]) h2
    obtain ⟨s, e3, hs⟩ := repStr (cs := [d]) h3
    obtain ⟨v, hv, hvs⟩ := val_of (S := S) (ρ := ρ) (cs := [e, f, g]) h4
    simp at e0 e1 e2 e3
    subst e0; subst e1; subst e2; subst e3
    exact ⟨⟨w0, w1, w2, s, v⟩, ⟨rvI w0, rvI w1, rvI w2, rvS s, hv⟩, Nat.le_trans hs hb3, Nat.le_trans hvs hb4⟩

def goodC (c : Cd) (n : Nat) : Prop := c.inn.length ≤ n ∧ c.ops.length ≤ n ∧ c.out.length ≤ n ∧ ∀ o ∈ c.ops, goodI o n
theorem cd_of (hS : ∀ b, b < w.heap.size → S b) {n : Nat} {cs : List Value} {y : DataW H × List MemPlace} (h : DataW.trod enc Tryz.prog w base spare held n 26 cs = some y) : ∃ c : Cd, RepP S ρ w (cdC c) cs ∧ goodC c (Rows.uptoBulk y.1) := by
  obtain ⟨hl, hf⟩ := fieldB Tryz.underlying26 h
  rw [c26] at hl
  match cs, hl with
  | [a, b, c], _ =>
    obtain ⟨_, _, h0, b0⟩ := hf 0 _ 1 rfl c22
    obtain ⟨_, _, h1, b1⟩ := hf 1 _ 1 rfl c23
    obtain ⟨_, _, h2, b2⟩ := hf 2 _ 1 rfl c24
    obtain ⟨l0, v0, e0, r0, k0, _⟩ := list_slice (S := S) (ρ := ρ) hS (cs := [a]) Tryz.underlying22 c57 h0 colC (fun _ => rfl) (good := fun _ _ => True) (fun _ _ _ _ _ => trivial) (fun n cs' y hy => let ⟨c, hc⟩ := col_of hy; ⟨c, hc, trivial⟩)
    obtain ⟨l1, v1, e1, r1, k1, q1⟩ := list_slice (S := S) (ρ := ρ) hS (cs := [b]) Tryz.underlying23 c55 h1 insC (fun _ => rfl) (good := goodI) (fun _ _ _ hle hg => ⟨Nat.le_trans hg.1 hle, Nat.le_trans hg.2 hle⟩) (fun n cs' y hy => ins_of hy)
    obtain ⟨l2, v2, e2, r2, k2, _⟩ := list_slice (S := S) (ρ := ρ) hS (cs := [c]) Tryz.underlying24 c59 h2 otC (fun _ => rfl) (good := fun _ _ => True) (fun _ _ _ _ _ => trivial) (fun n cs' y hy => let ⟨c, hc⟩ := ot_of hy; ⟨c, hc, trivial⟩)
    simp at e0 e1 e2
    subst e0; subst e1; subst e2
    refine ⟨⟨l0, l1, l2⟩, ⟨⟨r0, rfl, rfl⟩, ⟨r1, rfl, rfl⟩, ⟨r2, rfl, rfl⟩, trivial⟩, Nat.le_trans k0 b0, Nat.le_trans k1 b1, Nat.le_trans k2 b2, fun o ho => ?_⟩
    obtain ⟨q, q'⟩ := q1 o ho
    exact ⟨Nat.le_trans q b1, Nat.le_trans q' b1⟩
theorem cds_of (hS : ∀ b, b < w.heap.size → S b) {n : Nat} {cs : List Value} {y : DataW H × List MemPlace} (h : DataW.trod enc Tryz.prog w base spare held n 34 cs = some y) :
    ∃ (l : List Cd) (v : Value), cs = [v] ∧ Rep S ρ w (.ext (l.flatMap cdC) l.length) v ∧ l.length ≤ Rows.uptoBulk y.1 ∧ ∀ c ∈ l, goodC c (Rows.uptoBulk y.1) :=
  list_slice hS Tryz.underlying34 c26 h cdC (fun _ => rfl) (fun c n m hle hg => ⟨Nat.le_trans hg.1 hle, Nat.le_trans hg.2.1 hle, Nat.le_trans hg.2.2.1 hle, fun o ho => ⟨Nat.le_trans (hg.2.2.2 o ho).1 hle, Nat.le_trans (hg.2.2.2 o ho).2 hle⟩⟩) (fun n cs' y hy => cd_of hS hy)
end
end Go.AI
