/-
  The machine of values, on: memory, append, copy, calls. Conditions: those that each lemma lists.
-/
import Derived.Test.YtjpfohbfklghdaaGreatDoorN1
import Derived.Great.BuildSlice
import Derived.Deep.Upon
import Derived.Lib.AppendZeros
import Derived.Lib.AppendZerosOnto
import Derived.Laws.BytesArg
import Derived.Laws.IdiomStrings
set_option linter.all false
/-
  One operation, case by case: new blocks, literals, stores, conversions, make, lengths.
-/
set_option linter.unusedVariables false
set_option linter.unusedSimpArgs false
namespace Go.AI

section
variable {E : Env} {S O : Nat → Prop} {ρ : Map} {w : World} {m : Rows} {t : Nat → AV} {a : Act} {Q : Exit → Act → World → Prop} {next : Nat} {e : Eff} {o : Oper}

theorem Outc.boxedA (hm : MR S O ρ m w) (f : Fr S O w) {next : Nat} {cs : List AV} {ns : List Row} {ty : TypeId} (hn : ∀ r ∈ ns, r = ⟨[], .nil, true⟩)
    (hf : ∀ k, k < ns.length + 1 → ρ (next + k) = none) {arr : Array Value} (hl : cs.length ≤ arr.size) (ho : ∀ c ∈ cs, one c = true) {x : AV} {v : Value} (us : List Nat)
    (hr : ∀ ρ' : Map, ρ.le ρ' → ρ' next = some (some ⟨w.heap.size, cs.length, arr.size⟩) → (∀ k, k < ns.length → ρ' (next + 1 + k) = some none) →
      RepL S ρ' w cs (arr.toList.take cs.length) ∧ Rep S ρ' (w.alloc (.cells arr ty)) x v) : Outc S O ρ w m next ⟨x, [], ⟨cs, .is ty, true⟩ :: ns, us⟩ v (w.alloc (.cells arr ty)) :=
  Outc.boxed (w' := w.alloc (.cells arr ty)) hm f hn hf (fr := (0, 0)) rfl rfl rfl rfl (fun i _ h => absurd h.2 (Nat.not_lt_zero _)) hl ho us hr

theorem zeroOf_info {P : Program} {ty : TypeId} {cs : List AV} (h : zeroOf P ty = some cs) : ∃ i z, P.info? ty = some i ∧ i.zero = some z ∧ cellsAV z.cells.toList = some cs := by
  unfold zeroOf at h
  cases hi : P.info? ty with
  | none => simp [hi] at h
  | some i =>
    cases hz : i.zero with
    | none => simp [hi, hz] at h
    | some z => simp [hi, hz] at h; exact ⟨i, z, rfl, hz, h⟩

theorem s_alloc (c : Cx E S O ρ w m t a) {ty : TypeId} (ho : o.op = .alloc ty) {cs : List AV} (h : zeroOf E.P ty = some cs) (hf : ∀ k, k < (deNilL (next + 1) cs).2.length + 1 → ρ (next + k) = none) :
    Goal E S O ρ w m next ⟨.ptr next 0, [], ⟨(deNilL (next + 1) cs).1, .is ty, true⟩ :: (deNilL (next + 1) cs).2, []⟩ o a Q := by
  obtain ⟨i, z, h1, h2, h3⟩ := zeroOf_info h
  obtain ⟨_, hone⟩ := cellsAV_rep (S := S) (ρ := ρ) (w := w) h3
  obtain ⟨n1, n2, n3⟩ := deNilL_new (next + 1) cs
  have hlen := (cellsAV_rep (S := S) (ρ := ρ) (w := w) h3).1.length
  have hrun : (execOp a.eval o).run E.P w = .ok (.value (.pointer (some ⟨w.heap.size, 0, none⟩))) (w.alloc (.cells z.cells ty)) := by
    simp only [execOp, ho]
    refine run_v ?_
    simp [Instr.alloc, zeroValue, typeInfo, h1, h2, newVar, newRow, Result.andThen]
  refine wp_value hrun ⟨_, rfl, Outc.boxedA c.mr c.fr n1 hf (by rw [n2, hlen]; simp) (n3 hone) [] fun ρ' hle h0 hk => ⟨?_, ?_⟩⟩
  · rw [n2, hlen, List.take_length]
    exact deNilL_rep _ _ _ (cellsAV_rep h3).1 hk
  · have := Rep.ptr (S := S) (ρ := ρ') (w := w.alloc (.cells z.cells ty)) (off := 0) h0
    exact this

theorem s_box (c : Cx E S O ρ w m t a) {ty : TypeId} {x : Operand} (ho : o.op = .box ty x) {v : AV} (h : ev E t x = some v) (hone : (cellsOf v).all one = true) (hf : ∀ k, k < (deNilL (next + 1) (cellsOf v)).2.length + 1 → ρ (next + k) = none) :
    Goal E S O ρ w m next ⟨.ptr next 0, [], ⟨(deNilL (next + 1) (cellsOf v)).1, .is ty, true⟩ :: (deNilL (next + 1) (cellsOf v)).2, []⟩ o a Q := by
  have hr := (ev_rep c.tm c.gl h).cells hone
  obtain ⟨n1, n2, n3⟩ := deNilL_new (next + 1) (cellsOf v)
  have hlen := hr.length
  have hrun : (execOp a.eval o).run E.P w = .ok (.value (.pointer (some ⟨w.heap.size, 0, none⟩))) (w.alloc (.cells (a.eval x).cells ty)) := by
    simp only [execOp, ho]
    refine run_v ?_
    simp [Instr.box, newVar, newRow, Result.andThen]
  refine wp_value hrun ⟨_, rfl, Outc.boxedA c.mr c.fr n1 hf (by rw [n2, hlen]; simp) (n3 (by simpa using hone)) [] fun ρ' hle h0 hk => ⟨?_, ?_⟩⟩
  · rw [n2, hlen, List.take_length]
    exact deNilL_rep _ _ _ (RepL.mono hle (fun _ h => h) (fun _ _ => rfl) hr) hk
  · have := Rep.ptr (S := S) (ρ := ρ') (w := w.alloc (.cells (a.eval x).cells ty)) (off := 0) h0
    exact this

theorem s_store (c : Cx E S O ρ w m t a) {ty : TypeId} {x y : Operand} (ho : o.op = .store ty x y) {id off n : Nat} {v : AV} {r : Row} (h1 : ev E t x = some (.ptr id off)) (h2 : ev E t y = some v) (hn : szOf E.P ty = some n)
    (hr : m id = some r) (hlive : r.live = true) (hlen : (cellsOf v).length = n) (hfit : off + n ≤ r.cells.length) (hone : (cellsOf v).all one = true) (hid : id < next) (hf : ∀ k, k < (deNilL next (cellsOf v)).2.length → ρ (next + k) = none) :
    Goal E S O ρ w m next ⟨.tup [], [(id, { r with cells := setCells r.cells off (deNilL next (cellsOf v)).1 })], (deNilL next (cellsOf v)).2, [id]⟩ o a Q := by
  obtain ⟨L, hL, e1⟩ := (ev_rep c.tm c.gl h1).ptr_inv
  have hok := c.mr.at_ hr hlive hL
  have hv := (ev_rep c.tm c.gl h2).cells hone
  have hvl := hv.length
  obtain ⟨n1, n2, n3⟩ := deNilL_new next (cellsOf v)
  obtain ⟨k1, k2, k3, cs, tyb, fr, k4, k5, k6, k7, k8, k9⟩ := hok
  have hall : ∀ u ∈ (a.eval y).cells.toList, u.oneCell' = true := RepL.oneV hv (by simpa using hone)
  have hst := run_storeCells_cells (P := E.P) L.blk (L.base + off) (a.eval y).cells.toList 0 w
    (fun j hj => by rw [cell_of_row w _ _ cs tyb fr k4]; simp; omega)
    (fun j hj => by
      have := k6 (L.base + off + j) (by omega)
      simp only [World.frozen?, k4, Nat.add_zero]
      simpa using this) hall
  have hrun : (execOp a.eval o).run E.P w = .ok .skip (w.setCells L.blk (L.base + off) (a.eval y).cells.toList) := by
    have hsz : (a.eval y).cells.size = n := by rw [← hlen, hvl]; simp
    simp only [Loc.base, Nat.add_zero, Nat.zero_add] at hst
    simp only [execOp, ho, e1]
    simp [Instr.storeAt, Instr.sureAddr, storeVar, run_size hn, hsz, Result.andThen, hst]
  refine wp_skip' hrun ⟨undef, rfl, Outc.upd c.mr c.fr hr hlive hL hid n1 hf (by rw [n2]; omega) (n3 (by simpa using hone)) (fun ρ' hle hk => ?_) [id] (fun ρ' _ => .tup_of trivial)⟩
  exact deNilL_rep _ _ _ (RepL.mono hle (fun _ h => h) (fun _ _ => rfl) hv) hk

/-! ### literals -/
theorem evParts_rep (ht : TmpsOk S ρ w t a) (hg : GlobOk E S w) : ∀ {xs : List (Nat × Operand)} {vs : List (Nat × AV)}, evParts E t xs = some vs →
    vs.map (·.1) = xs.map (·.1) ∧ RepL S ρ w (vs.map (·.2)) (xs.map fun p => a.eval p.2)
  | [], vs, h => by simp [evParts] at h; subst h; exact ⟨rfl, trivial⟩
  | (i, x) :: xs, vs, h => by
    simp only [evParts] at h
    cases h1 : ev E t x with
    | none => simp [h1] at h
    | some v =>
      cases h2 : evParts E t xs with
      | none => simp [h1, h2] at h
      | some us =>
        simp [h1, h2] at h
        subst h
        obtain ⟨k1, k2⟩ := evParts_rep ht hg h2
        exact ⟨by simp [k1], ⟨ev_rep ht hg h1, k2⟩⟩

theorem foldl_zipIdx (off : Nat) : ∀ (vs : List Value) (k : Nat) (arr : Array Value), (vs.zipIdx k).foldl (fun cs p => cs.setIfInBounds (off + p.2) p.1) arr = setV arr (off + k) vs
  | [], _, _ => rfl
  | v :: vs, k, arr => by
    simp only [List.zipIdx_cons, List.foldl_cons, setV]
    exact foldl_zipIdx off vs (k + 1) _

theorem RepL.setV : ∀ (vs : List AV) (us : List Value) (cs : List AV) (arr : Array Value) (o : Nat), RepL S ρ w cs arr.toList → RepL S ρ w vs us → RepL S ρ w (setCells cs o vs) (setV arr o us).toList
  | [], [], _, _, _, h, _ => h
  | v :: vs, u :: us, cs, arr, o, h, k => by
    refine RepL.setV vs us _ _ (o + 1) ?_ k.2
    have : (arr.setIfInBounds o u).toList = arr.toList.set o u := by simp
    rw [this]
    exact RepL.set o h k.1
  | [], _ :: _, _, _, _, _, h => h.elim
  | _ :: _, [], _, _, _, _, h => h.elim

theorem fill_run (place : Nat → Option (Nat × Nat)) : ∀ (ps : List (Nat × AV)) (us : List (Nat × Value)) (cs cs' : List AV) (arr : Array Value), fillA place cs ps = some cs' → ps.map (·.1) = us.map (·.1) →
    RepL S ρ w (ps.map (·.2)) (us.map (·.2)) → RepL S ρ w cs arr.toList → (∀ c ∈ cs, one c = true) → ∃ arr', Instr.fill place arr us = some arr' ∧ RepL S ρ w cs' arr'.toList ∧ ∀ c ∈ cs', one c = true
  | [], [], cs, cs', arr, h, _, _, hr, ho => by simp [fillA] at h; subst h; exact ⟨arr, rfl, hr, ho⟩
  | (i, v) :: ps, (j, u) :: us, cs, cs', arr, h, hi, hp, hr, ho => by
    simp only [List.map_cons, List.cons.injEq] at hi
    obtain ⟨hij, hi⟩ := hi
    subst hij
    simp only [fillA] at h
    cases hpl : place i with
    | none => simp [hpl] at h
    | some p =>
      obtain ⟨off, size⟩ := p
      simp only [hpl] at h
      split at h
      · cases h
      · rename_i hcond
        simp only [Bool.or_eq_true, decide_eq_true_eq, Bool.not_eq_true', not_or, Bool.not_eq_false] at hcond
        obtain ⟨⟨c1, c2⟩, c3⟩ := hcond
        have c1' : (cellsOf v).length = size := by simpa using c1
        have hv := hp.1.cells c3
        have hvl := hv.length
        have hl := hr.length
        obtain ⟨arr', k1, k2⟩ := fill_run place ps us (setCells cs off (cellsOf v)) cs' (setV arr off u.cells.toList) h hi hp.2 (RepL.setV _ _ _ _ _ hr hv) (setCells_one _ _ _ ho (by simpa using c3))
        refine ⟨arr', ?_, k2⟩
        have e1 : u.cells.size = size := by rw [← c1', hvl]; simp
        have e2 : ¬ (off + u.cells.size > arr.size) := by rw [hvl] at c2; simp at c2 hl; omega
        have e3 : u.cells.zipIdx.foldl (fun cs (p : Value × Nat) => cs.setIfInBounds (off + p.2) p.1) arr = setV arr off u.cells.toList := by
          rw [← Array.foldl_toList, Array.toList_zipIdx]
          exact foldl_zipIdx off _ 0 arr
        simp only [Instr.fill, hpl]
        rw [if_neg (by simp [e1]; rw [e1] at e2; omega)]
        rw [show (u.cells.zipIdx.foldl (fun cs x => match x with | (c, j) => cs.setIfInBounds (off + j) c) arr) = setV arr off u.cells.toList from e3]
        exact k1
  | [], _ :: _, _, _, _, _, h, _, _, _ => by simp at h
  | _ :: _, [], _, _, _, _, h, _, _, _ => by simp at h

theorem placesA_eq {P : Program} : ∀ {fs : List Field} {ps : List (Nat × Nat)}, placesA P fs = some ps → fs.mapM (fun f => (P.info? f.type).map fun i => (f.offset, i.size)) = some ps
  | [], ps, h => by simp [placesA] at h; subst h; rfl
  | f :: fs, ps, h => by
    simp only [placesA] at h
    cases h1 : szOf P f.type with
    | none => simp [h1] at h
    | some n =>
      cases h2 : placesA P fs with
      | none => simp [h1, h2] at h
      | some qs =>
        simp [h1, h2] at h
        subst h
        have := placesA_eq h2
        unfold szOf at h1
        cases hi : P.info? f.type with
        | none => simp [hi] at h1
        | some i => simp [hi] at h1; subst h1; simp [hi, this]

theorem s_build (c : Cx E S O ρ w m t a) {ty : TypeId} {parts : Array (Nat × Operand)} (ho : o.op = .build ty parts) {zs cs : List AV} {ps : List (Nat × AV)} (hz : zeroOf E.P ty = some zs) (hp : evParts E t parts.toList = some ps)
    (hcase : (∃ fields pl, E.P.underlying ty = some (.struct fields) ∧ placesA E.P fields.toList = some pl ∧ fillA (pl[·]?) zs ps = some cs) ∨ ∃ len el n, E.P.underlying ty = some (.array len el) ∧ szOf E.P el = some n ∧ fillA (fun i => some (i * n, n)) zs ps = some cs)
    (hf : ∀ k, k < (deNilL next cs).2.length → ρ (next + k) = none) : Goal E S O ρ w m next ⟨.agg (deNilL next cs).1, [], (deNilL next cs).2, []⟩ o a Q := by
  obtain ⟨i, z, h1, h2, h3⟩ := zeroOf_info hz
  obtain ⟨hzr, hzo⟩ := cellsAV_rep (S := S) (ρ := ρ) (w := w) h3
  obtain ⟨e1, e2⟩ := evParts_rep c.tm c.gl hp
  have key : ∃ arr, E.P.built ty (parts.map fun (i, x) => (i, a.eval x)).toList = some arr ∧ RepL S ρ w cs arr.toList ∧ ∀ c ∈ cs, one c = true := by
    have hus : (parts.map fun (i, x) => (i, a.eval x)).toList = parts.toList.map fun p => (p.1, a.eval p.2) := by simp [Array.toList_map]
    rw [hus]
    rcases hcase with ⟨fields, pl, hu, hpl, hfill⟩ | ⟨len, el, n, hu, hn, hfill⟩
    · obtain ⟨arr, k1, k2⟩ := fill_run (S := S) (ρ := ρ) (w := w) (pl[·]?) ps (parts.toList.map fun p => (p.1, a.eval p.2)) zs cs z.cells hfill (by simpa [List.map_map, Function.comp_def] using e1) (by simpa [List.map_map, Function.comp_def] using e2) hzr hzo
      refine ⟨arr, ?_, k2⟩
      simp only [Program.built, h1, hu, h2, placesA_eq hpl]
      simpa using k1
    · obtain ⟨arr, k1, k2⟩ := fill_run (S := S) (ρ := ρ) (w := w) (fun i => some (i * n, n)) ps (parts.toList.map fun p => (p.1, a.eval p.2)) zs cs z.cells hfill (by simpa [List.map_map, Function.comp_def] using e1) (by simpa [List.map_map, Function.comp_def] using e2) hzr hzo
      refine ⟨arr, ?_, k2⟩
      unfold szOf at hn
      cases hi : E.P.info? el with
      | none => simp [hi] at hn
      | some ie => simp [hi] at hn; subst hn; simpa [Program.built, h1, hu, h2, hi] using k1
  obtain ⟨arr, k1, k2, k3⟩ := key
  obtain ⟨n1, n2, n3⟩ := deNilL_new next cs
  refine wp_value (v := .agg arr) ?_ ⟨_, rfl, Outc.nils c.mr c.fr n1 hf [] fun ρ' hle hk => .agg_of (deNilL_rep _ _ _ (RepL.mono hle (fun _ h => h) (fun _ _ => rfl) k2) hk) (n3 k3)⟩
  simp only [execOp, ho]
  exact run_v (run_build w ty _ arr k1)

theorem range_mod (l : List Value) (n : Nat) (hn : l.length = n) (len : Nat) : (List.range (len * n)).map (fun i => l.toArray[i % l.toArray.size]!) = (List.replicate len l).flatten := by
  induction len with
  | zero => simp
  | succ len ih =>
    rw [Nat.succ_mul, List.range_add, List.map_append, ih, List.replicate_succ', List.flatten_append, List.map_map]
    congr 1
    simp only [List.flatten_cons, List.flatten_nil, List.append_nil]
    apply List.ext_getElem
    · simp [hn]
    · intro i h1 h2
      simp only [List.getElem_map, List.getElem_range, Function.comp]
      have : (len * n + i) % l.toArray.size = i := by
        simp only [List.size_toArray, hn]
        rw [Nat.mul_comm, Nat.mul_add_mod]
        exact Nat.mod_eq_of_lt (by omega)
      rw [this]
      simp [h2]

theorem RepL.replicate {cs : List AV} {vs : List Value} (h : RepL S ρ w cs vs) (n : Nat) : RepL S ρ w (List.replicate n cs).flatten (List.replicate n vs).flatten := by
  induction n with
  | zero => trivial
  | succ n ih => simpa [List.replicate_succ] using h.append ih

theorem one_replicate {cs : List AV} (h : ∀ c ∈ cs, one c = true) (n : Nat) : ∀ c ∈ (List.replicate n cs).flatten, one c = true := by
  intro c hc
  obtain ⟨l, h1, h2⟩ := List.mem_flatten.1 hc
  rw [(List.mem_replicate.1 h1).2] at h2
  exact h c h2

theorem s_buildSlice (c : Cx E S O ρ w m t a) {ty el : TypeId} {len n : Nat} {parts : Array (Nat × Operand)} (ho : o.op = .buildSlice ty len parts) {zs cs : List AV} {ps : List (Nat × AV)} (hu : E.P.underlying ty = some (.slice el))
    (hn : szOf E.P el = some n) (hz : zeroOf E.P el = some zs) (hp : evParts E t parts.toList = some ps) (hsm : ¬(len * n > 16777216)) (hzn : zs.length = n) (hfill : fillA (fun i => some (i * n, n)) (List.replicate len zs).flatten ps = some cs)
    (hlen : cs.length = len * n) (hf : ∀ k, k < (deNilL (next + 1) cs).2.length + 1 → ρ (next + k) = none) :
    Goal E S O ρ w m next ⟨.sl next 0 len n, [], ⟨(deNilL (next + 1) cs).1, .is el, true⟩ :: (deNilL (next + 1) cs).2, []⟩ o a Q := by
  obtain ⟨i, z, h1, h2, h3⟩ := zeroOf_info hz
  obtain ⟨hzr, hzo⟩ := cellsAV_rep (S := S) (ρ := ρ) (w := w) h3
  have hzl := hzr.length
  have hin : i.size = n := by unfold szOf at hn; simpa [h1] using hn
  obtain ⟨e1, e2⟩ := evParts_rep c.tm c.gl hp
  have harr : ((Array.range (len * n)).map (z.cells[· % z.cells.size]!)).toList = (List.replicate len z.cells.toList).flatten := by
    rw [Array.toList_map, Array.toList_range]
    have := range_mod z.cells.toList n (by rw [← hzl]; exact hzn) len
    simpa using this
  obtain ⟨arr, k1, k2, k3⟩ := fill_run (S := S) (ρ := ρ) (w := w) (fun i => some (i * n, n)) ps (parts.toList.map fun p => (p.1, a.eval p.2)) _ cs ((Array.range (len * n)).map (z.cells[· % z.cells.size]!)) hfill
    (by simpa [List.map_map, Function.comp_def] using e1) (by simpa [List.map_map, Function.comp_def] using e2) (by rw [harr]; exact hzr.replicate len) (one_replicate hzo len)
  obtain ⟨n1, n2, n3⟩ := deNilL_new (next + 1) cs
  have hal := k2.length
  have hus : (parts.map fun (i, x) => (i, a.eval x)).toList = parts.toList.map fun p => (p.1, a.eval p.2) := by simp [Array.toList_map]
  have hrun : (execOp a.eval o).run E.P w = .ok (.value (.slice (some ⟨w.heap.size, 0, none⟩) len len)) (w.alloc (.cells arr el)) := by
    simp only [execOp, ho]
    refine run_v ?_
    by_cases h0 : len * n = 0
    · have hr0 : Array.range (len * n) = #[] := by rw [h0]; rfl
      rw [hr0] at k1
      simp only [Array.map_empty] at k1
      simp [Instr.buildSlice, run_under hu, run_size hn, h0, k1, newRow, Result.andThen, Array.range_zero']
    · exact run_buildSlice w ty el len _ arr i z hu h1 h2 (by rw [hin]; simpa using hsm) (by rw [hin]; exact h0) (by rw [hin, hus]; exact k1)
  refine wp_value hrun ⟨_, rfl, Outc.boxedA c.mr c.fr n1 hf (by rw [n2, hal]; simp) (n3 k3) [] fun ρ' hle h0 hk => ⟨?_, ?_⟩⟩
  · rw [n2, hal, List.take_length]
    exact deNilL_rep _ _ _ (RepL.mono hle (fun _ h => h) (fun _ _ => rfl) k2) hk
  · have hsz : arr.size = len * n := by rw [← hlen, hal]; simp
    exact .sl h0 (Nat.le_refl _) (fun hp => ⟨_, rfl, by simp, by simp [n2, hlen], by simp [hsz]⟩) (fun hp L e => by cases e; simp [n2, hlen, hp])
end
end Go.AI

/-
  One operation, case by case: append and copy.
-/
set_option linter.unusedVariables false
set_option linter.unusedSimpArgs false
namespace Go.AI

section
variable {E : Env} {S O : Nat → Prop} {ρ : Map} {w w' : World} {m : Rows} {t : Nat → AV} {a : Act} {Q : Exit → Act → World → Prop} {next : Nat} {e : Eff} {o : Oper}

/-- The cells that a slice's own row has, from a place on. -/
theorem MR.slCells (hm : MR S O ρ m w) {id off n z : Nat} {r : Row} {A : Option Addr} {cap : Nat} {x : Option Loc} (hr : m id = some r) (hlive : r.live = true) (hx : ρ id = some x)
    (hc : 0 < cap → ∃ L, x = some L ∧ A = some ⟨L.blk, L.base + off, none⟩ ∧ L.size ≤ off + cap * z ∧ L.base + off + cap * z ≤ L.bsz) (hp : 0 < cap) :
    ∃ L, x = some L ∧ A = some ⟨L.blk, L.base + off, none⟩ ∧ RowOk S ρ w (some L) r ∧ Reads S ρ w ⟨L.blk, L.base + off, none⟩ (r.cells.drop off) ∧ (∀ c ∈ r.cells, one c = true) ∧ L.size ≤ off + cap * z ∧ L.base + off + cap * z ≤ L.bsz := by
  obtain ⟨L, rfl, rfl, h1, h2⟩ := hc hp
  have hok := hm.at_ hr hlive hx
  obtain ⟨h3, h4⟩ := hok.reads
  have := h3.drop off
  rw [Addr.add_lit] at this
  exact ⟨L, rfl, rfl, hok, this, h4, h1, h2⟩

theorem contents_src {P : Program} (hm : MR S O ρ m w) {z : Nat} {x : AV} {v : Value} {cs : List AV} {n : Nat} {us : List Nat} (h : contents m z x = some (cs, n, us)) (hr : Rep S ρ w x v) {tx : TypeId}
    (hk : (∃ e', P.underlying tx = some (.slice e') ∧ ∀ s, v ≠ .string s) ∨ (P.underlying tx = some .string ∧ ∃ s, v = .string s)) :
    ∃ news, Src P z tx v n news w ∧ RepL S ρ w cs news ∧ (∀ c ∈ cs, one c = true) ∧ cs.length = n * z := by
  unfold contents at h
  split at h
  · injection h with h
    simp only [Prod.mk.injEq] at h
    obtain ⟨rfl, rfl, rfl⟩ := h
    obtain rfl := hr.nils_inv
    rcases hk with ⟨e', hk, _⟩ | ⟨_, s, hs⟩
    · exact ⟨[], Src.ofNil w hk 0, trivial, (fun _ h => by cases h), by simp⟩
    · cases hs
  · rename_i cs' n'
    split at h
    · rename_i hl
      injection h with h
      simp only [Prod.mk.injEq] at h
      obtain ⟨rfl, rfl, rfl⟩ := h
      obtain ⟨A, cap, rfl, hlc, hn, hone, hA⟩ := hr.ext_inv
      rcases hk with ⟨e', hk, _⟩ | ⟨_, s, hs⟩
      · by_cases hne : cs' = []
        · subst hne
          cases A with
          | none =>
            have : n' = 0 := by rcases Nat.eq_zero_or_pos n' with h | h; exact h; have := hn h; simp at this
            subst this
            exact ⟨[], Src.ofNil w hk cap, trivial, hone, by simp⟩
          | some b => exact ⟨[], Src.ofSlice w hk b n' cap [] (by simpa using hl) (fun j u h => by simp at h) (fun _ h => by cases h), trivial, hone, hl⟩
        · obtain ⟨b, rfl, hs, hrd⟩ := hA hne
          obtain ⟨vs, k1, k2⟩ := hrd.vals
          exact ⟨vs, Src.ofSlice w hk b n' cap vs (by rw [← k1.length]; exact hl) k2 (RepL.oneV k1 hone), k1, hone, hl⟩
      · cases hs
    · cases h
  · rename_i id off n' z'
    split at h
    · rename_i r hrow
      split at h
      · rename_i hlive
        cases hg : getCells r.cells off (n' * z) with
        | none => simp [hg] at h
        | some l =>
          simp [hg] at h
          obtain ⟨rfl, rfl, rfl⟩ := h
          obtain ⟨e1, e2⟩ := getCells_eq hg
          obtain ⟨A, cap, x', rfl, hx, hlc, hc, h0⟩ := hr.sl_inv
          rcases hk with ⟨e', hk, _⟩ | ⟨_, s, hs⟩
          · rcases Nat.eq_zero_or_pos cap with hp | hp
            · have : n' = 0 := by omega
              subst this
              have : l = [] := List.eq_nil_of_length_eq_zero (by simpa using e2)
              subst this
              cases A with
              | none => exact ⟨[], Src.ofNil w hk cap, trivial, (fun _ h => by cases h), by simp⟩
              | some b => exact ⟨[], Src.ofSlice w hk b 0 cap [] (by simp) (fun j u h => by simp at h) (fun _ h => by cases h), trivial, (fun _ h => by cases h), by simp⟩
            · obtain ⟨L, rfl, rfl, hok, hrd, hone, h1, h2⟩ := hm.slCells (n := n') hrow hlive.1 hx hc hp
              have hrd' : Reads S ρ w ⟨L.blk, L.base + off, none⟩ l := by rw [e1]; exact hrd.take _
              have hone' : ∀ c ∈ l, one c = true := fun c hc => by rw [e1] at hc; exact hone c (List.mem_of_mem_drop (List.mem_of_mem_take hc))
              obtain ⟨vs, k1, k2⟩ := hrd'.vals
              exact ⟨vs, Src.ofSlice w hk _ n' cap vs (by rw [← k1.length]; exact e2) k2 (RepL.oneV k1 hone'), k1, hone', e2⟩
          · cases hs
      · cases h
    · cases h
  · rename_i s
    split at h
    · rename_i hz
      subst hz
      injection h with h
      simp only [Prod.mk.injEq] at h
      obtain ⟨rfl, rfl, rfl⟩ := h
      obtain ⟨rfl, _⟩ := hr.val_inv
      rcases hk with ⟨e', _, hs⟩ | ⟨hk, _⟩
      · exact absurd rfl (hs s)
      · refine ⟨byteCells s, Src.ofString w hk s, ?_, fun c hc => ?_, ?_⟩
        · unfold byteCells
          generalize s.data.toList = l
          induction l with
          | nil => trivial
          | cons b l ih => exact ⟨.val rfl, ih⟩
        · obtain ⟨b, _, rfl⟩ := List.mem_map.1 hc
          rfl
        · simp
    · cases h
  · cases h

theorem run_builtin_append {P : Program} {args : Array Operand} {argTypes : Array TypeId} {ty : TypeId} {c : Call} {s x v : Value} {ts tx : TypeId} {dst : Option Tmp} {pos : String} {after : Array Edge} {guard : Option (Nat × Bool)}
    (hc : c.callee = .builtin .append) (h : (Builtin.append_ c.argTypes ty (c.args.map a.eval)).run P w = .ok v w') : (execOp a.eval ⟨dst, .call c, ty, pos, after, guard⟩).run P w = .ok (.value v) w' := by
  simp [execOp, resolve, hc, invoke, builtin, h, Result.andThen]

/-- A row goes, another takes its place: in its block or in a new one. -/
theorem Outc.moved (hm : MR S O ρ m w) (f : Fr S O w) {id : Nat} {r r' : Row} (hr : m id = some r) (hl : r.live = true) {next : Nat} (hid : id < next) (hf : ρ next = none) {L' : Loc}
    (hok : ∀ ρ' : Map, ρ.le ρ' → ρ' next = some (some L') → RowOk S ρ' w' (some L') r') (hOS : O L'.blk ∧ ¬ S L'.blk) (hkp : Kp O w w') (hkeep : ∀ b, b < w.heap.size → b ≠ L'.blk → w'.heap[b]? = w.heap[b]?)
    (hblk : w.heap.size ≤ L'.blk ∨ ∃ L, ρ id = some (some L) ∧ L'.blk = L.blk) {x : AV} {v : Value} (use : List Nat) (hv : ∀ ρ' : Map, ρ.le ρ' → ρ' next = some (some L') → Rep S ρ' w' x v) :
    Outc S O ρ w m next ⟨x, [(id, { r with live := false })], [r'], use⟩ v w' := by
  have hle : ρ.le (ρ.add next [some L']) := Map.le_add (fun k hk => by simp at hk; subst hk; exact hf)
  have hn : ρ.add next [some L'] next = some (some L') := Map.add_at (next := next) (k := 0) (xs := [some L']) (by simp)
  have hSs : ∀ b, S b → w'.heap[b]? = w.heap[b]? := fun b hb => hkeep b (f.lt b hb) (fun e => hOS.2 (e ▸ hb))
  have hat : ∀ i q, applyM m next ⟨x, [(id, { r with live := false })], [r'], use⟩ i = some q → (i = id ∧ q = { r with live := false }) ∨ (i = next ∧ q = r') ∨ (i ≠ id ∧ i ≠ next ∧ m i = some q) := by
    intro i q hq
    simp only [applyM, lookupU] at hq
    by_cases hi : id = i
    · rw [if_pos hi] at hq
      exact .inl ⟨hi.symm, by simpa using hq.symm⟩
    · rw [if_neg hi] at hq
      by_cases hc : next ≤ i ∧ i < next + 1
      · have : i = next := by omega
        subst this
        simp at hq
        exact .inr (.inl ⟨rfl, hq.symm⟩)
      · simp only [List.length_cons, List.length_nil] at hq
        rw [if_neg (by omega)] at hq
        exact .inr (.inr ⟨fun e => hi e.symm, by omega, hq⟩)
  -- a row that lives on lies elsewhere
  have hother : ∀ i q L, i ≠ id → m i = some q → q.live = true → ρ i = some (some L) → L.blk ≠ L'.blk := by
    intro i q L hi hq hql hL e
    rcases hblk with h | ⟨L0, h1, h2⟩
    · have := (hm.ok i q _ hq hql hL).1.lt
      omega
    · exact hi (hm.inj i id q r L L0 hq hr hql hl hL h1 (by rw [e, h2]))
  refine ⟨_, hle, fun i k1 k2 => ?_, hkp, hv _ hle hn, hm.step hle hSs (fun i q hq => ?_) (fun i i' q q' L1 L2 hq hq' hlq hlq' hx1 hx2 e => ?_)⟩
  · rw [Map.add_else (by simpa using k2)]; exact k1
  · rcases hat i q hq with ⟨rfl, rfl⟩ | ⟨rfl, rfl⟩ | ⟨k1, k2, k3⟩
    · obtain ⟨y, hy⟩ := hm.known i r hr
      exact .inr ⟨⟨y, hle _ _ hy⟩, fun h => by cases h⟩
    · refine .inr ⟨⟨_, hn⟩, fun _ y hy => ?_⟩
      rw [hn] at hy
      injection hy with hy
      subst hy
      exact ⟨hok _ hle hn, fun L e => by cases e; exact hOS⟩
    · refine .inl ⟨k3, fun hlive L hL => hkeep _ ((hm.ok i q _ k3 hlive hL).1.lt) (hother i q L k1 k3 hlive hL)⟩
  · have back : ∀ i q L, applyM m next ⟨x, [(id, { r with live := false })], [r'], use⟩ i = some q → q.live = true → ρ.add next [some L'] i = some (some L) → (i = next ∧ L = L') ∨ (i ≠ id ∧ m i = some q ∧ ρ i = some (some L)) := by
      intro i q L hq hlq hx
      rcases hat i q hq with ⟨rfl, rfl⟩ | ⟨rfl, rfl⟩ | ⟨k1, k2, k3⟩
      · cases hlq
      · rw [hn] at hx; exact .inl ⟨rfl, by simpa using hx.symm⟩
      · rw [Map.add_else (by simp; omega)] at hx; exact .inr ⟨k1, k3, hx⟩
    rcases back i q L1 hq hlq hx1 with ⟨h1, h2⟩ | ⟨h1, h2, h3⟩ <;> rcases back i' q' L2 hq' hlq' hx2 with ⟨h1', h2'⟩ | ⟨h1', h2', h3'⟩
    · rw [h1, h1']
    · exact absurd (e.symm.trans (by rw [h2])) (hother i' q' L2 h1' h2' hlq' h3')
    · exact absurd (e.trans (by rw [h2'])) (hother i q L1 h1 h2 hlq h3)
    · exact hm.inj i i' q q' L1 L2 h2 h2' hlq hlq' h3 h3' e

theorem info_of {P : Program} {ty : TypeId} {n b : Nat} {zs : List AV} (h1 : szOf P ty = some n) (h2 : bytesOf P ty = some b) (h3 : zeroOf P ty = some zs) : ∃ i z, P.info? ty = some i ∧ i.size = n ∧ i.bytes = b ∧ i.zero = some z := by
  obtain ⟨i, z, k1, k2, _⟩ := zeroOf_info h3
  unfold szOf at h1
  unfold bytesOf at h2
  simp [k1] at h1 h2
  exact ⟨i, z, k1, h1, h2, k2⟩

theorem fit_next {need cap by_ : Nat} (h : cap < need) (hb : need * by_ ≤ 140737488355328) : Builtin.nextslicecap need cap * by_ ≤ 281474976710656 := by
  have := Nat.mul_le_mul_right by_ (nextslicecap_le h)
  rw [Nat.mul_assoc] at this
  omega
end
end Go.AI

/-
  One operation, case by case: append, copy, len and its like; make; conversions.
-/
set_option linter.unusedVariables false
set_option linter.unusedSimpArgs false
namespace Go.AI

section
variable {E : Env} {S O : Nat → Prop} {ρ : Map} {w w' : World} {m : Rows} {t : Nat → AV} {a : Act} {Q : Exit → Act → World → Prop} {next : Nat} {e : Eff} {o : Oper}

theorem setV_out : ∀ (vs : List Value) (arr : Array Value) (o i : Nat), i < o ∨ o + vs.length ≤ i → (setV arr o vs)[i]? = arr[i]?
  | [], _, _, _, _ => rfl
  | v :: vs, arr, o, i, h => by
    simp only [List.length_cons] at h
    rw [setV, setV_out vs _ _ _ (by omega), Array.getElem?_setIfInBounds_ne (by omega)]
theorem setV_in : ∀ (vs : List Value) (arr : Array Value) (o j : Nat), o + vs.length ≤ arr.size → ∀ h : j < vs.length, (setV arr o vs)[o + j]? = some vs[j]
  | v :: vs, arr, o, 0, hl, h => by
    simp only [List.length_cons] at hl
    rw [setV, setV_out vs _ _ _ (by omega)]
    simp [show o < arr.size by omega]
  | v :: vs, arr, o, j + 1, hl, h => by
    simp only [List.length_cons] at hl h
    rw [setV, show o + (j + 1) = o + 1 + j by omega, setV_in vs _ _ j (by simp; omega) (by omega)]
    rfl

theorem run_builtin_v {P : Program} {b : Builtin} {c : Call} {v : Value} {s : Sem Value} (ho : o.op = .call c) (hc : c.callee = .builtin b)
    (hb : ∀ cs, builtin b c.argTypes o.type cs (c.args.map a.eval) = (do pure (.value (← s)))) (h : s.run P w = .ok v w') : (execOp a.eval o).run P w = .ok (.value v) w' := by
  simp only [execOp, ho, resolve, hc]
  show (builtin b c.argTypes o.type _ (c.args.map a.eval)).run P w = _
  rw [hb]
  exact run_v h

/-- The world behind an append that grows. -/
theorem grow_kp (O : Nat → Prop) (w : World) (ob : Obj) : Kp O w (w.drew.alloc ob) := ⟨rfl, rfl, rfl, by simp, fun b hb _ => by show (w.heap.push ob)[b]? = _; rw [Array.getElem?_push, if_neg (by omega)]⟩
theorem grow_keep (w : World) (ob : Obj) (b : Nat) (hb : b < w.heap.size) : (w.drew.alloc ob).heap[b]? = w.heap[b]? := by
  show (w.heap.push ob)[b]? = _
  rw [Array.getElem?_push, if_neg (by omega)]
theorem grow_new (w : World) (ob : Obj) : (w.drew.alloc ob).heap[w.heap.size]? = some ob := by
  show (w.heap.push ob)[w.heap.size]? = _
  simp

theorem take_zeros (l r : List Value) (z : Array Value) (n : Nat) : ((l ++ r).toArray ++ Builtin.zeroCells z n).toList.take (l ++ r).length = l ++ r := by
  rw [Array.toList_append]
  simp only [List.length_append]
  rw [← List.length_append, List.take_left]

theorem cells_eq {c : Call} {x y : Operand} (h : c.args = #[x, y]) : c.args.map a.eval = #[a.eval x, a.eval y] := by simp [h]

/-- append, whatever is appended. -/
theorem s_append (c : Cx E S O ρ w m t a) {cl : Call} (ho : o.op = .call cl) (hcl : cl.callee = .builtin .append) {ts tx el : TypeId} (hat : cl.argTypes = #[ts, tx]) {x y : Operand} (harg : cl.args = #[x, y])
    (hu : E.P.underlying ts = some (.slice el)) {s v : AV} (h1 : ev E t x = some s) (h2 : ev E t y = some v)
    (hk : (∃ e', E.P.underlying tx = some (.slice e') ∧ ∀ b, a.eval y ≠ .string b) ∨ (E.P.underlying tx = some .string ∧ ∃ b, a.eval y = .string b)) (h : appendA E el m next s v = some e) (hid : ∀ p ∈ e.upd, p.1 < next)
    (hf : ∀ k, k < e.new.length → ρ (next + k) = none) : Goal E S O ρ w m next e o a Q := by
  unfold appendA at h
  split at h
  case h_2 => cases h
  rename_i z by_ zs hz hby hzs
  obtain ⟨i, zv, i1, i2, i3, i4⟩ := info_of hz hby hzs
  split at h
  case isTrue => cases h
  rename_i hguard
  have hz0 : z ≠ 0 := fun h => hguard (.inr (.inl h))
  have hby0 : 0 < by_ := Nat.pos_of_ne_zero fun h => hguard (.inr (.inr h))
  have hzl : zs.length = z := Classical.byContradiction fun h => hguard (.inl h)
  have hzv : zv.cells.size = z := by
    obtain ⟨i', z', k1, k2, k3⟩ := zeroOf_info hzs
    rw [i1] at k1
    cases k1
    rw [i4] at k2
    cases k2
    have := (cellsAV_rep (S := S) (ρ := ρ) (w := w) k3).1.length
    rw [hzl] at this
    simpa using this.symm
  clear hguard
  split at h
  case h_2 => cases h
  rename_i cs n us hcont
  obtain ⟨news, hsrc, hnr, hno, hnl⟩ := contents_src c.mr hcont (ev_rep c.tm c.gl h2) hk
  have hnlen := hnr.length
  rw [← i2] at hsrc
  have hb : ∀ cs, builtin .append cl.argTypes o.type cs (cl.args.map a.eval) = (do pure (.value (← Builtin.append_ #[ts, tx] o.type #[a.eval x, a.eval y]))) := by
    intro cs; rw [hat, cells_eq harg]; rfl
  split at h
  · -- a nil slice
    have e1 := (ev_rep c.tm c.gl h1).nils_inv
    split at h
    · rename_i hc1
      split at h
      · rename_i hn0
        subst hn0
        injection h with h
        subst h
        have hnews : news = [] := List.eq_nil_of_length_eq_zero (by rw [← hnlen, hnl]; simp)
        subst hnews
        have hr := run_append_nothing w ts tx o.type el i hu i1 none 0 0 (Nat.le_refl _) (a.eval y) hsrc
        exact Goal.pure c (run_builtin_v ho hcl hb (by rw [e1]; exact hr)) .nils
      · rename_i hn0
        injection h with h
        subst h
        have hle : n * 1 ≤ n * by_ := Nat.mul_le_mul_left _ hby0
        have hr := run_append_grow_src w ts tx o.type el i zv hu i1 i4 none 0 0 [] (run_firstCells_none _ _ _ _ _) (a.eval y) n news hsrc (by omega) (by omega) (by rw [i3]; exact fit_next (by omega) (by simpa using hc1))
        simp only [Nat.zero_add, List.nil_append] at hr
        have hrun := run_builtin_v ho hcl hb (by rw [e1]; exact hr)
        refine wp_value hrun ⟨_, rfl, Outc.boxed (w' := w.drew.alloc (.cells (news.toArray ++ Builtin.zeroCells zv.cells (grownCap w n 0 el - n)) el)) (fr := (0, 0)) (arr := news.toArray ++ Builtin.zeroCells zv.cells (grownCap w n 0 el - n)) c.mr c.fr (ns := []) (fun _ h => by cases h) (by simpa using hf) rfl rfl rfl rfl
          (fun i _ h => absurd h.2 (Nat.not_lt_zero _)) (by rw [hnlen]; simp) hno us fun ρ' hle' h0 hk' => ⟨?_, ?_⟩⟩
        · have := take_zeros news [] zv.cells (grownCap w n 0 el - n)
          simp only [List.append_nil] at this
          rw [hnlen, this]
          exact RepL.mono hle' (fun _ h => h) (fun _ _ => rfl) hnr
        · have hcap : n ≤ grownCap w n 0 el := by unfold grownCap; simp [Question.cut]
          have hsz : (news.toArray ++ Builtin.zeroCells zv.cells (grownCap w n 0 el - n)).size = n * z + (grownCap w n 0 el - n) * zv.cells.size := by
            rw [Array.size_append, size_zeroCells]
            simp [← hnlen, hnl]
          rw [hzv, ← Nat.add_mul, show n + (grownCap w n 0 el - n) = grownCap w n 0 el by omega] at hsz
          refine .sl h0 hcap (fun hp => ⟨_, rfl, by simp, ?_, ?_⟩) (fun hp => by omega)
          · simp only [hnl, Nat.zero_add]; exact Nat.mul_le_mul_right _ hcap
          · simp only [hsz, Loc.base]; omega
    · cases h
  · -- a row of the frame's own
    rename_i id off len z'
    obtain ⟨A, cap, x', e1, hx, hlc, hc, h0⟩ := (ev_rep c.tm c.gl h1).sl_inv
    split at h
    case h_2 => cases h
    rename_i r hr
    split at h
    case isFalse => cases h
    rename_i hcond
    obtain ⟨hlive, hzz, hoff, hfit⟩ := hcond
    have hle : (len + n) * 1 ≤ (len + n) * by_ := Nat.mul_le_mul_left _ hby0
    have hok := c.mr.at_ hr hlive hx
    have hz1 : 0 < cap → z' = z := by
      intro hp
      obtain ⟨L, rfl, _⟩ := hc hp
      rcases hzz with h | h
      · exact absurd h hok.1
      · exact h
    split at h
    · rename_i hn0
      injection h with h
      subst h
      subst hn0
      have hnews : news = [] := List.eq_nil_of_length_eq_zero (by rw [← hnlen, hnl]; simp)
      subst hnews
      have hr' := run_append_nothing w ts tx o.type el i hu i1 A len cap hlc (a.eval y) hsrc
      refine Goal.pure c (run_builtin_v ho hcl hb (by rw [e1]; exact hr')) (.sl hx hlc (fun hp => ?_) h0)
      rw [← hz1 hp]
      exact hc hp
    rename_i hn0
    -- the cells that stand there
    have holds : ∃ olds, (Builtin.firstCells i.size len (.slice A len cap)).run E.P w.drew = .ok olds.toArray w.drew ∧ RepL S ρ w ((r.cells.drop off).take (len * z)) olds ∧ ((r.cells.drop off).take (len * z)).length = len * z := by
      have hl : ((r.cells.drop off).take (len * z)).length = len * z := by rw [List.length_take, List.length_drop]; omega
      rcases Nat.eq_zero_or_pos cap with hp | hp
      · have : len = 0 := by omega
        subst this
        refine ⟨[], ?_, by simp [RepL], hl⟩
        cases A with
        | none => exact run_firstCells_none _ _ _ _ _
        | some b => exact run_firstCells_some w.drew i.size 0 b 0 cap [] (by simp) (fun j v h => by simp at h)
      · obtain ⟨L, rfl, rfl, _, hrd, hone, _, _⟩ := c.mr.slCells (n := len) hr hlive hx hc hp
        obtain ⟨vs, k1, k2⟩ := (hrd.take (len * z)).vals
        refine ⟨vs, ?_, k1, hl⟩
        exact run_firstCells_some w.drew i.size len _ len cap vs (by rw [← k1.length, hl, i2]) (by simpa using k2)
    obtain ⟨olds, hold, holdr, holdl⟩ := holds
    have holdn := holdr.length
    -- there is room
    have room : len + n ≤ cap → ∃ L, x' = some L ∧ A = some ⟨L.blk, L.base + off, none⟩ ∧ L.base + off + cap * z ≤ L.bsz ∧
        (Builtin.append_ #[ts, tx] o.type #[a.eval x, a.eval y]).run E.P w = .ok (.slice A (len + n) cap) (w.setCells L.blk (L.base + (off + len * z)) news) := by
      intro hroom
      have hp : 0 < cap := by omega
      obtain ⟨L, rfl, rfl, hokL, _, _, g1, g2⟩ := c.mr.slCells (n := len) hr hlive hx hc hp
      rw [hz1 hp] at g1 g2
      obtain ⟨k1, k2, k3, arr, tyb, fr, k4, k5, k6, k7, k8, k9⟩ := hokL
      have hmul : (len + n) * z ≤ cap * z := Nat.mul_le_mul_right _ hroom
      rw [Nat.add_mul] at hmul
      have hroom' := run_append_room_src w ts tx o.type el i hu i1 L.blk (L.base + off) len cap (a.eval y) n news hsrc hroom
        (fun j hj => by rw [i2, cell_of_row w _ _ arr tyb fr k4]; rw [← hnlen, hnl] at hj; simp; omega)
        (fun j hj => by
          rw [i2]
          rw [← hnlen, hnl] at hj
          have := k6 (L.base + off + len * z + j) (by omega)
          simp only [World.frozen?, k4]
          simpa using this)
      rw [i2, show L.base + off + len * z = L.base + (off + len * z) by omega] at hroom'
      exact ⟨L, rfl, rfl, g2, by rw [e1]; exact hroom'⟩
    split at h
    · -- all of it is known to be there
      rename_i hin
      injection h with h
      subst h
      have hp : 0 < cap := by
        rcases Nat.eq_zero_or_pos cap with hp | hp
        · exfalso
          have hmul : 0 < (len + n) * z := Nat.mul_pos (by omega) (Nat.pos_of_ne_zero hz0)
          cases x' with
          | none => rw [hok.1] at hin; simp at hin; omega
          | some L => have h6 := h0 hp L rfl; have h7 := hok.2.1; omega
        · exact hp
      have hroom : len + n ≤ cap := by
        obtain ⟨L, rfl, rfl, _, _, _, g1, _⟩ := c.mr.slCells (n := len) hr hlive hx hc hp
        rw [hz1 hp] at g1
        have h7 := hok.2.1
        have : (len + n) * z ≤ cap * z := by omega
        exact Nat.le_of_mul_le_mul_right this (Nat.pos_of_ne_zero hz0)
      obtain ⟨L, rfl, rfl, g2, hrun⟩ := room hroom
      refine wp_value (run_builtin_v ho hcl hb hrun) ⟨_, rfl, Outc.upd c.mr c.fr hr hlive hx (hid _ (List.mem_singleton.2 rfl)) (ns := []) (fun _ h => by cases h) (by simpa using hf) (by rw [hnl, Nat.add_assoc, ← Nat.add_mul]; exact hin) hno
        (fun ρ' hle' _ => RepL.mono hle' (fun _ h => h) (fun _ _ => rfl) hnr) _ (fun ρ' hle' => ?_)⟩
      refine .sl (hle' _ _ hx) hroom (fun hp => ?_) (fun hp => by omega)
      have := hc hp
      rw [hz1 hp] at this
      exact this
    · -- in its block, or in a new one
      rename_i hin
      split at h
      case isFalse => cases h
      rename_i hoff0
      injection h with h
      subst h
      have hcl' : (((r.cells.drop off).take (len * z)) ++ cs).length = (len + n) * z := by rw [List.length_append, holdl, hnl, Nat.add_mul]
      have hone : ∀ c ∈ ((r.cells.drop off).take (len * z)) ++ cs, one c = true := by
        intro c' hc'
        rcases List.mem_append.1 hc' with h | h
        · cases x' with
          | none => rw [hok.1] at h; simp at h
          | some L => exact hok.reads.2 c' (List.mem_of_mem_drop (List.mem_of_mem_take h))
        · exact hno c' h
      have hty : r.ty.grow el ≠ .nil := by
        unfold RT.grow
        split
        · simp
        · split <;> simp
        · simp
      have hf0 : ρ next = none := by simpa using hf 0 (by simp)
      rcases Nat.lt_or_ge cap (len + n) with hg | hroom
      · -- a new one
        have hr' := run_append_grow_src w ts tx o.type el i zv hu i1 i4 A len cap olds hold (a.eval y) n news hsrc hg (by omega) (by rw [i3]; exact fit_next hg hfit)
        have hcap : len + n ≤ grownCap w (len + n) cap el := by unfold grownCap; simp [Question.cut]
        have hsz : ((olds ++ news).toArray ++ Builtin.zeroCells zv.cells (grownCap w (len + n) cap el - (len + n))).size = grownCap w (len + n) cap el * z := by
          rw [Array.size_append, size_zeroCells, hzv]
          simp only [List.size_toArray, List.length_append, ← hnlen, ← holdn, hnl, holdl]
          rw [← Nat.add_mul, ← Nat.add_mul]
          congr 1
          omega
        refine wp_value (run_builtin_v ho hcl hb (by rw [e1]; exact hr')) ⟨_, rfl, Outc.moved c.mr c.fr hr hlive (hid _ (List.mem_singleton.2 rfl)) hf0
          (L' := ⟨w.heap.size, (len + n) * z, ((olds ++ news).toArray ++ Builtin.zeroCells zv.cells (grownCap w (len + n) cap el - (len + n))).size⟩) (fun ρ' hle' hn' => ?_)
          ⟨c.fr.new _ (Nat.le_refl _), fun hs => by have := c.fr.lt _ hs; simp at this⟩ (grow_kp _ _ _) (fun b hb _ => grow_keep _ _ b hb) (.inl (Nat.le_refl _)) _ (fun ρ' hle' hn' => ?_)⟩
        · refine ⟨hty, hcl'.symm, ?_, _, el, (0, 0), grow_new _ _, rfl, fun i _ h => absurd h.2 (Nat.not_lt_zero _), fun q e => ?_, hone, fun j cc hj => ?_⟩
          · simp only [hsz, Nat.zero_add]; exact Nat.mul_le_mul_right _ hcap
          · simp only [RT.grow] at e
            split at e
            · simpa using e.symm
            · split at e
              · simpa using e.symm
              · cases e
            · cases e
          · have hj' : j < (olds ++ news).length := by rw [List.length_append, ← hnlen, ← holdn, ← List.length_append]; exact (List.getElem?_eq_some_iff.1 hj).1
            refine ⟨(olds ++ news)[j], ?_, ?_⟩
            · simp only [Nat.zero_add]
              rw [Array.getElem?_append_left (by simpa using hj')]
              simp [List.getElem?_eq_getElem hj']
            · exact ((holdr.append hnr).get j cc _ hj (List.getElem?_eq_getElem hj')).kp c.fr (grow_kp O w _) hle'
        · refine .sl hn' hcap (fun hp => ⟨_, rfl, by simp, ?_, ?_⟩) (fun hp => by omega)
          · simp only [Nat.zero_add]; exact Nat.mul_le_mul_right _ hcap
          · simp only [hsz, Loc.base]; omega
      · -- in its own
        obtain ⟨L, rfl, rfl, g2, hrun⟩ := room hroom
        obtain ⟨k1, k2, k3, arr, tyb, fr, k4, k5, k6, k7, k8, k9⟩ := hok
        obtain ⟨hOb, hSb⟩ := (c.mr.ok id r _ hr hlive hx).2 L rfl
        obtain ⟨q1, q2, q3, q4, q5, q6⟩ := heap_setCells L.blk tyb fr news (L.base + (off + len * z)) w arr k4
        have hmul : (len + n) * z ≤ cap * z := Nat.mul_le_mul_right _ hroom
        have hkp : Kp O w (w.setCells L.blk (L.base + (off + len * z)) news) := ⟨q4, q5, q6, by omega, fun b hb hno => q2 b (fun e => hno (e ▸ hOb))⟩
        refine wp_value (run_builtin_v ho hcl hb hrun) ⟨_, rfl, Outc.moved c.mr c.fr hr hlive (hid _ (List.mem_singleton.2 rfl)) hf0 (L' := ⟨L.blk, (len + n) * z, L.bsz⟩) (fun ρ' hle' hn' => ?_)
          ⟨hOb, hSb⟩ hkp (fun b hb hne => q2 b hne) (.inr ⟨L, hx, rfl⟩) _ (fun ρ' hle' hn' => ?_)⟩
        · refine ⟨hty, hcl'.symm, by simp only [Loc.base]; omega, _, tyb, fr, q1, by rw [setV_size]; exact k5, k6, fun q e => ?_, hone, fun j cc hj => ?_⟩
          · have hg : ∀ q, r.ty = .is q → q = tyb := k7
            simp only [RT.grow] at e
            split at e
            · rename_i hrt; exact absurd hrt k1
            · rename_i q' hrt
              split at e
              · rename_i hq
                have := hg q' hrt
                cases e
                rw [← hq]; exact this
              · cases e
            · cases e
          · have hj' : j < (len + n) * z := by rw [← hcl']; exact (List.getElem?_eq_some_iff.1 hj).1
            rcases Nat.lt_or_ge j (len * z) with hjl | hjl
            · rw [List.getElem?_append_left (by omega)] at hj
              rw [List.getElem?_take_of_lt hjl, List.getElem?_drop] at hj
              obtain ⟨u, u1, u2⟩ := k9 (off + j) cc hj
              refine ⟨u, ?_, u2.kp c.fr hkp hle'⟩
              refine Eq.trans (congrArg (fun q => (setV arr (L.base + (off + len * z)) news)[q]?) (show _ = L.base + off + j by simp only [Loc.base]; omega)) ?_
              show (setV arr (L.base + (off + len * z)) news)[L.base + off + j]? = some u
              rw [setV_out _ _ _ _ (.inl (show L.base + off + j < L.base + (off + len * z) by omega))]
              rw [← Nat.add_assoc] at u1
              exact u1
            · rw [List.getElem?_append_right (by omega), holdl] at hj
              have hj2 : j - len * z < news.length := by rw [← hnlen]; exact (List.getElem?_eq_some_iff.1 hj).1
              refine ⟨news[j - len * z], ?_, (hnr.get _ cc _ hj (List.getElem?_eq_getElem hj2)).kp c.fr hkp hle'⟩
              have := setV_in news arr (L.base + (off + len * z)) (j - len * z) (by rw [← hnlen, hnl]; rw [Nat.add_mul] at hmul; omega) hj2
              rw [← this]
              congr 1
              simp only [Loc.base]
              omega
        · refine .sl hn' hroom (fun hp => ⟨_, rfl, by simp [hoff0], ?_, ?_⟩) (fun hp => by omega)
          · simp only [Nat.zero_add]; exact hmul
          · simp only [Loc.base]; omega
  · cases h
end
end Go.AI

/-
  One operation, case by case: zeros appended, copy, lengths, make, conversions.
-/
set_option linter.unusedVariables false
set_option linter.unusedSimpArgs false
namespace Go.AI

section
variable {E : Env} {S O : Nat → Prop} {ρ : Map} {w w' : World} {m : Rows} {t : Nat → AV} {a : Act} {Q : Exit → Act → World → Prop} {next : Nat} {e : Eff} {o : Oper}

theorem zs_of {P : Program} {el : TypeId} {zs : List AV} {i : TypeInfo} {zv : Value} (hzs : zeroOf P el = some zs) (i1 : P.info? el = some i) (i4 : i.zero = some zv) : RepL S ρ w zs zv.cells.toList ∧ (∀ c ∈ zs, one c = true) ∧ zs.length = zv.cells.size := by
  obtain ⟨i', z', k1, k2, k3⟩ := zeroOf_info hzs
  rw [i1] at k1
  cases k1
  rw [i4] at k2
  cases k2
  obtain ⟨h1, h2⟩ := cellsAV_rep (S := S) (ρ := ρ) (w := w) k3
  exact ⟨h1, h2, by have := h1.length; simpa using this⟩

theorem zeroCells_list (z : Array Value) (n : Nat) : (Builtin.zeroCells z n).toList = (List.replicate n z.toList).flatten := by
  have := range_mod z.toList z.size (by simp) n
  unfold Builtin.zeroCells
  rw [Array.toList_map, Array.toList_range]
  simpa using this

theorem madeCells_list (z : Array Value) (n k : Nat) (h : z.size = k) : (madeCells z (n * k)).toList = (List.replicate n z.toList).flatten := by
  subst h
  have := range_mod z.toList z.size (by simp) n
  unfold madeCells
  rw [Array.toList_map, Array.toList_range]
  simpa using this

theorem s_appendZ (c : Cx E S O ρ w m t a) {cl : Call} (ho : o.op = .call cl) (hcl : cl.callee = .builtin .append) {ts tx el : TypeId} (hat : cl.argTypes = #[ts, tx]) {x y : Operand} (harg : cl.args = #[x, y])
    (hu : E.P.underlying ts = some (.slice el)) {kn k : IntKind} {n : Int} (htn : E.P.underlying tx = some (.int kn)) {s : AV} (h1 : ev E t x = some s) (h2 : ev E t y = some (.val (.int k n))) (h : appendZ E el m next s n = some e)
    (hf : ∀ k, k < e.new.length → ρ (next + k) = none) : Goal E S O ρ w m next e o a Q := by
  unfold appendZ at h
  split at h
  case h_2 => cases h
  rename_i z by_ zs hz hby hzs
  obtain ⟨i, zv, i1, i2, i3, i4⟩ := info_of hz hby hzs
  split at h
  case isFalse => cases h
  rename_i hg
  obtain ⟨hn0, hn1, hfit, hzl, hz0, hby0⟩ := hg
  obtain ⟨z1, z2, z3⟩ := zs_of (S := S) (ρ := ρ) (w := w) hzs i1 i4
  obtain ⟨e2, _⟩ := (ev_rep c.tm c.gl h2).val_inv
  have hb : ∀ cs, builtin .append cl.argTypes o.type cs (cl.args.map a.eval) = (do pure (.value (← Builtin.append_ #[ts, tx] o.type #[a.eval x, a.eval y]))) := by
    intro cs; rw [hat, cells_eq harg]; rfl
  obtain ⟨q, hq⟩ := Int.eq_ofNat_of_zero_le (Int.le_of_lt hn0)
  subst hq
  simp only [Int.toNat_natCast] at h hfit
  -- the first argument: nothing, no room
  have key : (∃ A, a.eval x = .slice A 0 0) → ∀ us, e = ⟨.sl next 0 q z, [], [⟨(List.replicate q zs).flatten, .is el, true⟩], us⟩ → Goal E S O ρ w m next e o a Q := by
    rintro ⟨A, e1⟩ us rfl
    have hq0 : 0 < q := by omega
    have hle : q * 1 ≤ q * by_ := Nat.mul_le_mul_left _ (Nat.pos_of_ne_zero hby0)
    have hold : (Builtin.firstCells i.size 0 (.slice A 0 0)).run E.P w.drew = .ok ([] : List Value).toArray w.drew := by
      cases A with
      | none => exact run_firstCells_none _ _ _ _ _
      | some b => exact run_firstCells_some w.drew i.size 0 b 0 0 [] (by simp) (fun j v h => by simp at h)
    have hr := Lib.run_append_grow_zeros w ts tx o.type el i zv k kn hu htn i1 i4 A 0 0 [] hold q hq0 (by rw [i2]; omega) (by omega) (by omega) (by rw [i3]; omega) (by rw [i3]; exact fit_next (by omega) (by simpa using hfit))
    simp only [Nat.zero_add] at hr
    have hrun := run_builtin_v ho hcl hb (by rw [e1, e2]; exact hr)
    have hcap : q ≤ grownCap w q 0 el := by unfold grownCap; simp [Question.cut]
    have hlen : (List.replicate q zs).flatten.length = q * z := by simp [hzl]
    have hsz : (#[] ++ Builtin.zeroCells zv.cells q ++ Builtin.zeroCells zv.cells (grownCap w q 0 el - q) : Array Value).size = grownCap w q 0 el * z := by
      rw [Array.size_append, Array.size_append, size_zeroCells, size_zeroCells, ← z3, hzl]
      simp only [Array.size_empty, Nat.zero_add]
      rw [← Nat.add_mul]
      congr 1
      omega
    refine wp_value hrun ⟨_, rfl, Outc.boxed (w' := w.drew.alloc (.cells (#[] ++ Builtin.zeroCells zv.cells q ++ Builtin.zeroCells zv.cells (grownCap w q 0 el - q)) el)) (fr := (0, 0)) (arr := #[] ++ Builtin.zeroCells zv.cells q ++ Builtin.zeroCells zv.cells (grownCap w q 0 el - q))
      c.mr c.fr (ns := []) (fun _ h => by cases h) (by simpa using hf) rfl rfl rfl rfl (fun i _ h => absurd h.2 (Nat.not_lt_zero _)) (by rw [hlen, hsz]; exact Nat.mul_le_mul_right _ hcap) (one_replicate z2 q) us fun ρ' hle' h0 hk' => ⟨?_, ?_⟩⟩
    · have e3 : (#[] ++ Builtin.zeroCells zv.cells q ++ Builtin.zeroCells zv.cells (grownCap w q 0 el - q) : Array Value).toList.take (List.replicate q zs).flatten.length = (List.replicate q zv.cells.toList).flatten := by
        rw [Array.toList_append, Array.toList_append, zeroCells_list, zeroCells_list]
        have : (List.replicate q zs).flatten.length = (List.replicate q zv.cells.toList).flatten.length := by simp [hzl, ← z3]
        simp only [List.nil_append]
        rw [this, List.take_left]
      rw [e3]
      exact RepL.mono hle' (fun _ h => h) (fun _ _ => rfl) (z1.replicate q)
    · refine .sl h0 hcap (fun hp => ⟨_, rfl, by simp, ?_, ?_⟩) (fun hp => by omega)
      · simp only [hlen, Nat.zero_add]; exact Nat.mul_le_mul_right _ hcap
      · simp only [hsz, Loc.base]; omega
  split at h
  · injection h with h
    exact key ⟨none, (ev_rep c.tm c.gl h1).nils_inv⟩ [] h.symm
  · rename_i id off z'
    split at h
    · rename_i r hr
      split at h
      · rename_i hc
        injection h with h
        obtain ⟨A, cap, x', e1, hx, hlc, hcc, h0⟩ := (ev_rep c.tm c.gl h1).sl_inv
        have hok := c.mr.at_ hr hc.1 hx
        have : cap = 0 := by
          rcases Nat.eq_zero_or_pos cap with hp | hp
          · exact hp
          · obtain ⟨L, rfl, _⟩ := hcc hp
            exact absurd hc.2 hok.1
        subst this
        exact key ⟨A, e1⟩ [id] h.symm
      · cases h
    · cases h
  · cases h

/-! ### lengths -/
theorem cells_eq1 {c : Call} {x : Operand} (h : c.args = #[x]) : c.args.map a.eval = #[a.eval x] := by simp [h]
theorem lenA_run {x : AV} {v : Value} {n : Nat} (hr : Rep S ρ w x v) (h : lenA x = some n) (hx : ∀ u, x ≠ .val u) : ∃ A cap, v = .slice A n cap := by
  cases x <;> simp [lenA] at h
  case val u => exact absurd rfl (hx u)
  case nils => subst h; exact ⟨_, _, hr.nils_inv⟩
  case sl => subst h; obtain ⟨A, cap, _, e, _⟩ := hr.sl_inv; exact ⟨A, cap, e⟩
  case ext => subst h; obtain ⟨A, cap, e, _⟩ := hr.ext_inv; exact ⟨A, cap, e⟩

theorem s_lenS (c : Cx E S O ρ w m t a) {cl : Call} (ho : o.op = .call cl) (hcl : cl.callee = .builtin .len) {ty : TypeId} {x : Operand} (harg : cl.args = #[x]) (hat : cl.argTypes[0]? = some ty) {s : ByteArray} (hu : E.P.underlying ty = some .string)
    (h1 : ev E t x = some (.val (.string s))) : Goal E S O ρ w m next ⟨.val (.int .i64 s.size), [], [], []⟩ o a Q := by
  obtain ⟨e1, _⟩ := (ev_rep c.tm c.gl h1).val_inv
  refine Goal.pure c (v := .int .i64 s.size) (run_builtin_v ho hcl (s := Builtin.len_ cl.argTypes o.type #[a.eval x]) (fun cs => by rw [cells_eq1 harg]; rfl) ?_) (.val rfl)
  simp [Builtin.len_, hat, e1, run_under hu, goInt, Result.andThen]

theorem s_len (c : Cx E S O ρ w m t a) {cl : Call} (ho : o.op = .call cl) (hcl : cl.callee = .builtin .len) {ty el : TypeId} {x : Operand} (harg : cl.args = #[x]) (hat : cl.argTypes[0]? = some ty) {v : AV} {n : Nat} (hu : E.P.underlying ty = some (.slice el))
    (h1 : ev E t x = some v) (hn : lenA v = some n) (hv : ∀ u, v ≠ .val u) : Goal E S O ρ w m next ⟨.val (.int .i64 n), [], [], []⟩ o a Q := by
  obtain ⟨A, cap, e1⟩ := lenA_run (ev_rep c.tm c.gl h1) hn hv
  refine Goal.pure c (v := .int .i64 n) (run_builtin_v ho hcl (s := Builtin.len_ cl.argTypes o.type #[a.eval x]) (fun cs => by rw [cells_eq1 harg]; rfl) ?_) (.val rfl)
  simp [Builtin.len_, hat, e1, run_under hu, goInt, Result.andThen]

theorem s_cap (c : Cx E S O ρ w m t a) {cl : Call} (ho : o.op = .call cl) (hcl : cl.callee = .builtin .cap) {ty el : TypeId} {x : Operand} (harg : cl.args = #[x]) (hat : cl.argTypes[0]? = some ty) (hu : E.P.underlying ty = some (.slice el)) (us : List Nat)
    (h1 : ∃ A n, a.eval x = .slice A n 0) : Goal E S O ρ w m next ⟨.val (.int .i64 0), [], [], us⟩ o a Q := by
  obtain ⟨A, n, e1⟩ := h1
  refine Goal.pure c (v := .int .i64 0) (run_builtin_v ho hcl (s := Builtin.cap_ cl.argTypes o.type #[a.eval x]) (fun cs => by rw [cells_eq1 harg]; rfl) ?_) (.val rfl)
  simp [Builtin.cap_, hat, e1, run_under hu, goInt, Result.andThen]

theorem s_minmax (c : Cx E S O ρ w m t a) {cl : Call} (ho : o.op = .call cl) {x y : Operand} (harg : cl.args = #[x, y]) {k : IntKind} {p q : Int} (h1 : ev E t x = some (.val (.int k p))) (h2 : ev E t y = some (.val (.int k q))) :
    (cl.callee = .builtin .max → Goal E S O ρ w m next ⟨.val (.int k (if q > p then q else p)), [], [], []⟩ o a Q) ∧ (cl.callee = .builtin .min → Goal E S O ρ w m next ⟨.val (.int k (if q < p then q else p)), [], [], []⟩ o a Q) := by
  obtain ⟨e1, _⟩ := (ev_rep c.tm c.gl h1).val_inv
  obtain ⟨e2, _⟩ := (ev_rep c.tm c.gl h2).val_inv
  refine ⟨fun hcl => ?_, fun hcl => ?_⟩
  · refine Goal.pure c (v := .int k (if q > p then q else p)) (run_builtin_v ho hcl (s := Builtin.max_ cl.argTypes o.type #[a.eval x, a.eval y]) (fun cs => by rw [cells_eq harg]; rfl) ?_) (.val rfl)
    simp [Builtin.max_, e1, e2, Builtin.max2]
  · refine Goal.pure c (v := .int k (if q < p then q else p)) (run_builtin_v ho hcl (s := Builtin.min_ cl.argTypes o.type #[a.eval x, a.eval y]) (fun cs => by rw [cells_eq harg]; rfl) ?_) (.val rfl)
    simp [Builtin.min_, e1, e2, Builtin.min2]

/-! ### make, conversions -/
theorem s_makeSlice (c : Cx E S O ρ w m t a) {ty el : TypeId} {x y : Operand} (ho : o.op = .makeSlice ty x y) {kl kc : IntKind} {l q : Int} {n by_ : Nat} {zs : List AV} (hu : E.P.underlying ty = some (.slice el))
    (h1 : ev E t x = some (.val (.int kl l))) (h2 : ev E t y = some (.val (.int kc q))) (hb : bytesOf E.P el = some by_) (hn : szOf E.P el = some n) (hz : zeroOf E.P el = some zs)
    (hc : 0 ≤ l ∧ l ≤ q ∧ q ≤ 9223372036854775807 ∧ by_ * q ≤ 140737488355328 ∧ zs.length = n ∧ n ≠ 0) (hf : ρ next = none) :
    Goal E S O ρ w m next ⟨.sl next 0 l.toNat n, [], [⟨(List.replicate l.toNat zs).flatten, .is el, true⟩], []⟩ o a Q := by
  obtain ⟨i, zv, i1, i2, i3, i4⟩ := info_of hn hb hz
  obtain ⟨z1, z2, z3⟩ := zs_of (S := S) (ρ := ρ) (w := w) hz i1 i4
  obtain ⟨c1, c2, c3, c4, c5, c6⟩ := hc
  obtain ⟨e1, _⟩ := (ev_rep c.tm c.gl h1).val_inv
  obtain ⟨e2, _⟩ := (ev_rep c.tm c.gl h2).val_inv
  have hr := run_make w ty el i zv hu i1 i4 kl kc l q c1 c2 (by rw [i3]; omega) c3
  rw [i2] at hr
  have hrun : (execOp a.eval o).run E.P w = .ok (.value (.slice (some ⟨w.heap.size, 0, none⟩) l.toNat q.toNat)) (w.alloc (.cells (madeCells zv.cells (q.toNat * n)) el)) := by
    simp only [execOp, ho, e1, e2]
    exact run_v hr
  have hlen : (List.replicate l.toNat zs).flatten.length = l.toNat * n := by simp [c5]
  have hlq : l.toNat ≤ q.toNat := by omega
  refine wp_value hrun ⟨_, rfl, Outc.boxedA c.mr c.fr (ns := []) (fun _ h => by cases h) (fun k hk => by simp at hk; subst hk; exact hf) (by rw [hlen, size_madeCells]; exact Nat.mul_le_mul_right _ hlq) (one_replicate z2 _) [] fun ρ' hle' h0 hk' => ⟨?_, ?_⟩⟩
  · have e3 : (madeCells zv.cells (q.toNat * n)).toList.take (List.replicate l.toNat zs).flatten.length = (List.replicate l.toNat zv.cells.toList).flatten := by
      rw [madeCells_list zv.cells q.toNat n (by rw [← z3]; exact c5), show q.toNat = l.toNat + (q.toNat - l.toNat) by omega, ← List.replicate_append_replicate, List.flatten_append]
      have : (List.replicate l.toNat zs).flatten.length = (List.replicate l.toNat zv.cells.toList).flatten.length := by simp [c5, ← z3]
      rw [this, List.take_left]
    rw [e3]
    exact RepL.mono hle' (fun _ h => h) (fun _ _ => rfl) (z1.replicate _)
  · refine .sl h0 hlq (fun hp => ⟨_, rfl, by simp, ?_, ?_⟩) (fun hp L e => ?_)
    · simp only [hlen, Nat.zero_add]; exact Nat.mul_le_mul_right _ hlq
    · simp [size_madeCells]
    · cases e
      have : l.toNat = 0 := by omega
      simp [this]

theorem s_convInt (c : Cx E S O ρ w m t a) {s d : TypeId} {x : Operand} (ho : o.op = .convert s d x) {k k' : IntKind} {n : Int} {ds : TypeDesc} (hs : E.P.underlying s = some ds) (hd : E.P.underlying d = some (.int k)) (h1 : ev E t x = some (.val (.int k' n))) :
    Goal E S O ρ w m next ⟨.val (.int k (k.wrap n)), [], [], []⟩ o a Q := by
  obtain ⟨e1, _⟩ := (ev_rep c.tm c.gl h1).val_inv
  refine Goal.pure c (v := .int k (k.wrap n)) ?_ (.val rfl)
  simp only [execOp, ho, e1]
  refine run_v ?_
  simp [convert, run_under hs, run_under hd, Conv.intToInt, Result.andThen]

theorem s_convStr (c : Cx E S O ρ w m t a) {s d : TypeId} {x : Operand} (ho : o.op = .convert s d x) {b : ByteArray} (hs : E.P.underlying s = some .string) (hd : E.P.underlying d = some .string) (h1 : ev E t x = some (.val (.string b))) :
    Goal E S O ρ w m next ⟨.val (.string b), [], [], []⟩ o a Q := by
  obtain ⟨e1, _⟩ := (ev_rep c.tm c.gl h1).val_inv
  refine Goal.pure c (v := .string b) ?_ (.val rfl)
  simp only [execOp, ho, e1]
  refine run_v ?_
  simp [convert, run_under hs, run_under hd, Result.andThen]

theorem s_convBytes (c : Cx E S O ρ w m t a) {s d el : TypeId} {x : Operand} (ho : o.op = .convert s d x) {b : ByteArray} (hs : E.P.underlying s = some .string) (hd : E.P.underlying d = some (.slice el)) (he : E.P.underlying el = some (.int .u8)) (h1 : ev E t x = some (.val (.string b)))
    (hf : ρ next = none) : Goal E S O ρ w m next ⟨.sl next 0 b.size 1, [], [⟨b.data.toList.map fun c => .val (.int .u8 c.toNat), .is el, true⟩], []⟩ o a Q := by
  obtain ⟨e1, _⟩ := (ev_rep c.tm c.gl h1).val_inv
  have hr := run_bytes_of_string w s d el b hs hd he
  have hrun : (execOp a.eval o).run E.P w = .ok (.value (.slice (some ⟨w.heap.size, 0, none⟩) b.size (grownCap w b.size 0 el))) (w.drew.alloc (.cells (bytesRow b (grownCap w b.size 0 el)) el ((bytesRow b (grownCap w b.size 0 el)).size, (bytesRow b (grownCap w b.size 0 el)).size + 1))) := by
    simp only [execOp, ho, e1]
    exact run_v hr
  have hcap : b.size ≤ grownCap w b.size 0 el := by unfold grownCap; simp [Question.cut]
  have hlist : (bytesRow b (grownCap w b.size 0 el)).toList = (b.data.toList.map fun c => Value.int .u8 c.toNat) ++ List.replicate (grownCap w b.size 0 el - b.size) (.int .u8 0) := by
    simp [bytesRow]
  have hsz : (bytesRow b (grownCap w b.size 0 el)).size = grownCap w b.size 0 el := by
    rw [← Array.length_toList, hlist]
    simp
    omega
  have hl : (b.data.toList.map fun c => AV.val (.int .u8 c.toNat)).length = b.size := by simp
  refine wp_value hrun ⟨_, rfl, Outc.boxed (w' := w.drew.alloc (.cells (bytesRow b (grownCap w b.size 0 el)) el ((bytesRow b (grownCap w b.size 0 el)).size, (bytesRow b (grownCap w b.size 0 el)).size + 1))) (arr := bytesRow b (grownCap w b.size 0 el)) c.mr c.fr (ns := [])
    (fun _ h => by cases h) (fun k hk => by simp at hk; subst hk; exact hf) rfl rfl rfl rfl (fun i hi h => by omega) (by rw [hl, hsz]; exact hcap) (fun c hc => by obtain ⟨q, _, rfl⟩ := List.mem_map.1 hc; rfl) [] fun ρ' hle' h0 hk' => ⟨?_, ?_⟩⟩
  · have e3 : (bytesRow b (grownCap w b.size 0 el)).toList.take (b.data.toList.map fun c => AV.val (.int .u8 c.toNat)).length = b.data.toList.map fun c => Value.int .u8 c.toNat := by
      rw [hlist]
      have : (b.data.toList.map fun c => AV.val (.int .u8 c.toNat)).length = (b.data.toList.map fun c => Value.int .u8 c.toNat).length := by simp
      rw [this, List.take_left]
    rw [e3]
    generalize b.data.toList = l
    induction l with
    | nil => trivial
    | cons q l ih => exact ⟨.val rfl, ih⟩
  · refine .sl h0 hcap (fun hp => ⟨_, rfl, by simp, ?_, ?_⟩) (fun hp L e => ?_)
    · simp only [hl, Nat.zero_add, Nat.mul_one]; exact hcap
    · simp only [hsz, Loc.base]; omega
    · cases e; show (b.data.toList.map fun c => AV.val (.int .u8 c.toNat)).length ≤ 0; rw [hl]; omega

theorem bytesA_eq : ∀ {cs : List AV} {l : List UInt8}, stepOp.bytesA cs = some l → ∃ ns : List Int, cs = ns.map (fun n => .val (.int .u8 n)) ∧ l = ns.map fun n => UInt8.ofNat n.toNat
  | [], l, h => by simp [stepOp.bytesA] at h; subst h; exact ⟨[], rfl, rfl⟩
  | c :: cs, l, h => by
    unfold stepOp.bytesA at h
    split at h
    · rename_i h0; cases h0
    · rename_i n cs' h0
      cases h0
      cases h1 : stepOp.bytesA cs with
      | none => simp [h1] at h
      | some l' =>
        simp [h1] at h
        subst h
        obtain ⟨ns, rfl, rfl⟩ := bytesA_eq h1
        exact ⟨n :: ns, rfl, rfl⟩
    · cases h

theorem s_convBack (c : Cx E S O ρ w m t a) {s d el : TypeId} {x : Operand} (ho : o.op = .convert s d x) {v : AV} {cs : List AV} {n : Nat} {us : List Nat} {l : List UInt8} (hs : E.P.underlying s = some (.slice el)) (hd : E.P.underlying d = some .string)
    (he : E.P.underlying el = some (.int .u8)) (h1 : ev E t x = some v) (hv : ∀ u, v ≠ .val u) (hc : contents m 1 v = some (cs, n, us)) (hl : stepOp.bytesA cs = some l) (hn : n = l.length) :
    Goal E S O ρ w m next ⟨.val (.string ⟨l.toArray⟩), [], [], us⟩ o a Q := by
  have hr := ev_rep c.tm c.gl h1
  obtain ⟨ns, rfl, rfl⟩ := bytesA_eq hl
  have hsl : ∃ A cap, a.eval x = .slice A n cap := by
    unfold contents at hc
    split at hc
    · injection hc with hc; simp only [Prod.mk.injEq] at hc; obtain ⟨_, rfl, _⟩ := hc; exact ⟨_, _, hr.nils_inv⟩
    · split at hc
      · injection hc with hc; simp only [Prod.mk.injEq] at hc; obtain ⟨_, rfl, _⟩ := hc; obtain ⟨A, cap, e, _⟩ := hr.ext_inv; exact ⟨A, cap, e⟩
      · cases hc
    · split at hc
      · split at hc
        · rename_i r _ _
          obtain ⟨A, cap, _, e, _⟩ := hr.sl_inv
          obtain ⟨q, _, hq⟩ := Option.map_eq_some_iff.1 hc
          simp only [Prod.mk.injEq] at hq
          obtain ⟨_, rfl, _⟩ := hq
          exact ⟨A, cap, e⟩
        · cases hc
      · cases hc
    · exact absurd rfl (hv _)
    · cases hc
  obtain ⟨A, cap, e1⟩ := hsl
  obtain ⟨news, hsrc, hnr, hone_, hnl⟩ := contents_src c.mr hc hr (tx := s) (.inl ⟨el, hs, fun b => by rw [e1]; simp⟩)
  have hnews : news = ns.map (Value.int .u8) := by
    clear hc hl hn hnl hsrc hone_
    induction ns generalizing news with
    | nil => match news, hnr with | [], _ => rfl
    | cons q ns ih =>
      match news, hnr with
      | u :: news, h => obtain ⟨rfl, _⟩ := h.1.val_inv; rw [ih news h.2]; rfl
  refine Goal.pure c (v := .string ⟨(ns.map fun n => UInt8.ofNat n.toNat).toArray⟩) ?_ (.val rfl)
  simp only [execOp, ho, e1]
  refine run_v ?_
  rw [run_convert_bytes_string w s d el A n cap hs he hd]
  have hn' : n = ns.length := by rw [hn]; simp
  cases A with
  | none =>
    have hcells := hsrc.cells
    rw [e1] at hcells
    simp [Builtin.firstCells] at hcells
    have : ns = [] := by rw [hnews] at hcells; simpa using hcells
    subst this
    simp [Conv.bytesToString]
    rfl
  | some b =>
    have hcells := hsrc.cells
    rw [e1, hnews] at hcells
    simp only [Builtin.firstCells, Nat.mul_one] at hcells
    rw [run_bytesToString w b n cap ns hcells, foldl_push_bytes]
    have : ByteArray.empty.data = #[] := rfl
    rw [this]
    simp
end
end Go.AI

/-
  One operation: copy; then all operations but calls of functions, in one law.
-/
set_option linter.unusedVariables false
set_option linter.unusedSimpArgs false
namespace Go.AI

section
variable {E : Env} {S O : Nat → Prop} {ρ : Map} {w w' : World} {m : Rows} {t : Nat → AV} {a : Act} {Q : Exit → Act → World → Prop} {next : Nat} {e : Eff} {o : Oper}

/-- The first k elements of what is appended or copied. -/
theorem contents_first {P : Program} (hm : MR S O ρ m w) {z : Nat} {x : AV} {v : Value} {cs : List AV} {n : Nat} {us : List Nat} (h : contents m z x = some (cs, n, us)) (hr : Rep S ρ w x v) {k : Nat} (hk : k ≤ n) :
    ∃ news, (Builtin.lenOf v).run P w = .ok n w ∧ (Builtin.firstCells z k v).run P w = .ok news.toArray w ∧ RepL S ρ w (cs.take (k * z)) news ∧ (∀ c ∈ cs, one c = true) ∧ cs.length = n * z := by
  have hkz : k * z ≤ n * z := Nat.mul_le_mul_right _ hk
  unfold contents at h
  split at h
  · injection h with h
    simp only [Prod.mk.injEq] at h
    obtain ⟨rfl, rfl, rfl⟩ := h
    obtain rfl := hr.nils_inv
    exact ⟨[], rfl, run_firstCells_none _ _ _ _ _, by simp [RepL], (fun _ h => by cases h), by simp⟩
  · rename_i cs' n'
    split at h
    · rename_i hl
      injection h with h
      simp only [Prod.mk.injEq] at h
      obtain ⟨rfl, rfl, rfl⟩ := h
      obtain ⟨A, cap, rfl, hlc, hn, hone, hA⟩ := hr.ext_inv
      by_cases hne : cs' = []
      · subst hne
        cases A with
        | none => exact ⟨[], rfl, run_firstCells_none _ _ _ _ _, by simp [RepL], hone, hl⟩
        | some b => exact ⟨[], rfl, run_firstCells_some w z k b n' cap [] (by simp at hl; simp; omega) (fun j u h => by simp at h), by simp [RepL], hone, hl⟩
      · obtain ⟨b, rfl, hs, hrd⟩ := hA hne
        obtain ⟨vs, k1, k2⟩ := (hrd.take (k * z)).vals
        exact ⟨vs, rfl, run_firstCells_some w z k b n' cap vs (by rw [← k1.length, List.length_take]; omega) k2, k1, hone, hl⟩
    · cases h
  · rename_i id off n' z'
    split at h
    · rename_i r hrow
      split at h
      · rename_i hlive
        obtain ⟨l, hg, hq⟩ := Option.map_eq_some_iff.1 h
        simp only [Prod.mk.injEq] at hq
        obtain ⟨rfl, rfl, rfl⟩ := hq
        obtain ⟨e1, e2⟩ := getCells_eq hg
        obtain ⟨A, cap, x', rfl, hx, hlc, hc, h0⟩ := hr.sl_inv
        rcases Nat.eq_zero_or_pos cap with hp | hp
        · have : n' = 0 := by omega
          subst this
          have : k = 0 := by omega
          subst this
          have : l = [] := List.eq_nil_of_length_eq_zero (by simpa using e2)
          subst this
          cases A with
          | none => exact ⟨[], rfl, run_firstCells_none _ _ _ _ _, by simp [RepL], (fun _ h => by cases h), by simp⟩
          | some b => exact ⟨[], rfl, run_firstCells_some w z 0 b 0 cap [] (by simp) (fun j u h => by simp at h), by simp [RepL], (fun _ h => by cases h), by simp⟩
        · obtain ⟨L, rfl, rfl, hok, hrd, hone, h1, h2⟩ := hm.slCells (n := n') hrow hlive.1 hx hc hp
          have hrd' : Reads S ρ w ⟨L.blk, L.base + off, none⟩ l := by rw [e1]; exact hrd.take _
          have hone' : ∀ c ∈ l, one c = true := fun c hc => by rw [e1] at hc; exact hone c (List.mem_of_mem_drop (List.mem_of_mem_take hc))
          obtain ⟨vs, k1, k2⟩ := (hrd'.take (k * z)).vals
          exact ⟨vs, rfl, run_firstCells_some w z k _ n' cap vs (by rw [← k1.length, List.length_take]; omega) k2, k1, hone', e2⟩
      · cases h
    · cases h
  · rename_i s
    split at h
    · rename_i hz
      subst hz
      injection h with h
      simp only [Prod.mk.injEq] at h
      obtain ⟨rfl, rfl, rfl⟩ := h
      obtain ⟨rfl, _⟩ := hr.val_inv
      refine ⟨(s.data.toList.take k).map fun b => .int .u8 b.toNat, rfl, ?_, ?_, fun c hc => ?_, by simp⟩
      · simp only [Builtin.firstCells]
        have : (s.extract 0 k).data = (s.data.toList.take k).toArray := by
          apply Array.ext'
          simp
        show Result.ok _ _ = _
        congr 1
        apply Array.ext'
        simp [this]
      · rw [Nat.mul_one, ← List.map_take]
        generalize s.data.toList.take k = l
        induction l with
        | nil => trivial
        | cons b l ih => exact ⟨.val rfl, ih⟩
      · obtain ⟨b, _, rfl⟩ := List.mem_map.1 hc
        rfl
    · cases h
  · cases h

theorem s_copy (c : Cx E S O ρ w m t a) {cl : Call} (ho : o.op = .call cl) (hcl : cl.callee = .builtin .copy) {ts el : TypeId} (hat : cl.argTypes[0]? = some ts) {x y : Operand} (harg : cl.args = #[x, y])
    (hu : E.P.underlying ts = some (.slice el)) {s v : AV} (h1 : ev E t x = some s) (h2 : ev E t y = some v) (h : copyA E el m s v = some e) (hid : ∀ p ∈ e.upd, p.1 < next)
    (hf : ∀ k, k < e.new.length → ρ (next + k) = none) : Goal E S O ρ w m next e o a Q := by
  unfold copyA at h
  split at h
  case h_2 => cases h
  rename_i z hz
  split at h
  case h_2 => cases h
  rename_i cs n us hcont
  split at h
  case h_2 => cases h
  rename_i id off len z'
  split at h
  case h_2 => cases h
  rename_i r hr
  split at h
  case isFalse => cases h
  rename_i hcond
  obtain ⟨hlive, hzz, hoff⟩ := hcond
  injection h with h
  subst h
  obtain ⟨news, hlen, hfirst, hnr, hno, hnl⟩ := contents_first (P := E.P) c.mr hcont (ev_rep c.tm c.gl h2) (k := min n len) (Nat.min_le_left _ _)
  obtain ⟨A, cap, x', e1, hx, hlc, hc, h0⟩ := (ev_rep c.tm c.gl h1).sl_inv
  have hok := c.mr.at_ hr hlive hx
  have hnlen := hnr.length
  have hmz : min n len * z ≤ n * z := Nat.mul_le_mul_right _ (Nat.min_le_left _ _)
  have hmz2 : min n len * z ≤ len * z := Nat.mul_le_mul_right _ (Nat.min_le_right _ _)
  have hno' : ∀ c ∈ cs.take (min n len * z), one c = true := fun c hc => hno c (List.mem_of_mem_take hc)
  have hb : ∀ cs, builtin .copy cl.argTypes o.type cs (cl.args.map a.eval) = (do pure (.value (← Builtin.copy_ cl.argTypes o.type #[a.eval x, a.eval y]))) := by
    intro cs; rw [cells_eq harg]; rfl
  have hnlen' : news.length = min n len * z := by rw [← hnlen, List.length_take]; omega
  cases x' with
  | none =>
    have hp : cap = 0 := by
      rcases Nat.eq_zero_or_pos cap with hp | hp
      · exact hp
      · obtain ⟨L, e, _⟩ := hc hp; cases e
    have hl0 : len = 0 := by omega
    subst hl0
    have hnews : news = [] := List.eq_nil_of_length_eq_zero (by rw [hnlen']; simp)
    subst hnews
    have hrun : (Builtin.copy_ cl.argTypes o.type #[a.eval x, a.eval y]).run E.P w = .ok (.int .i64 (min n 0 : Nat)) w := by
      rw [e1]
      simp only [Nat.min_zero] at hfirst ⊢
      cases A <;> simp [Builtin.copy_, hat, run_under hu, hlen, run_size hz, hfirst, Result.andThen, goInt, storeCells]
    refine wp_value (run_builtin_v ho hcl hb hrun) ⟨_, rfl, ρ, .refl _, fun _ h _ => h, .refl _ _, .val rfl, ?_⟩
    have : applyM m next ⟨.val (.int .i64 (min n 0 : Nat)), [(id, { r with cells := setCells r.cells off (cs.take (min n 0 * z)) })], [], id :: us⟩ = m := by
      funext i
      simp only [applyM, lookupU, Nat.min_zero, Nat.zero_mul, List.take_zero, setCells]
      by_cases hi : id = i
      · subst hi; rw [if_pos rfl, hr]
      · rw [if_neg hi, if_neg (by simp)]
    rw [this]
    exact c.mr
  | some L =>
    obtain ⟨k1, k2, k3, arr, tyb, fr, k4, k5, k6, k7, k8, k9⟩ := hok
    have hAL : 0 < cap → A = some ⟨L.blk, L.base + off, none⟩ := fun hp => by obtain ⟨L', e, e2, _⟩ := hc hp; cases e; exact e2
    have hst := run_storeCells_cells (P := E.P) L.blk (L.base + off) news 0 w
      (fun j hj => by rw [cell_of_row w _ _ arr tyb fr k4]; simp; omega)
      (fun j hj => by
        have := k6 (L.base + off + j) (by omega)
        simp only [World.frozen?, k4, Nat.add_zero]
        simpa using this) (RepL.oneV hnr hno')
    simp only [Loc.base, Nat.add_zero, Nat.zero_add] at hst
    have hrun : (Builtin.copy_ cl.argTypes o.type #[a.eval x, a.eval y]).run E.P w = .ok (.int .i64 (min n len : Nat)) (w.setCells L.blk (L.base + off) news) := by
      rw [e1]
      rcases Nat.eq_zero_or_pos cap with hp | hp
      · have hl0 : len = 0 := by omega
        subst hl0
        have hnews : news = [] := List.eq_nil_of_length_eq_zero (by rw [hnlen']; simp)
        subst hnews
        simp only [Nat.min_zero] at hfirst ⊢
        cases A <;> simp [Builtin.copy_, hat, run_under hu, hlen, run_size hz, hfirst, Result.andThen, goInt, storeCells, World.setCells]
      · rw [hAL hp]
        have hmin : Nat.min n len = min n len := rfl
        simp [Builtin.copy_, hat, run_under hu, hlen, run_size hz, hmin, hfirst, Result.andThen, goInt, hst]
    exact wp_value (run_builtin_v ho hcl hb hrun) ⟨_, rfl, Outc.upd c.mr c.fr hr hlive hx (hid _ (List.mem_singleton.2 rfl)) (ns := []) (fun _ h => by cases h) (by simpa using hf) (by rw [List.length_take]; omega) hno'
      (fun ρ' hle' _ => RepL.mono hle' (fun _ h => h) (fun _ _ => rfl) hnr) _ (fun ρ' _ => .val rfl)⟩
end
end Go.AI

/-
  Calls: what is handed over, what comes back.
-/
set_option linter.unusedVariables false
set_option linter.unusedSimpArgs false
namespace Go.AI

theorem renL_map (σ : Nat → Nat) : ∀ cs : List AV, renL σ cs = cs.map (ren σ)
  | [] => by simp [renL]
  | c :: cs => by simp [renL, renL_map σ cs]
theorem noExtL_all : ∀ cs : List AV, noExtL cs = cs.all noExt
  | [] => by simp [noExtL]
  | c :: cs => by simp [noExtL, noExtL_all cs]
theorem idsL_flat : ∀ cs : List AV, idsL cs = cs.flatMap idsV
  | [] => by simp [idsL]
  | c :: cs => by simp [idsL, idsL_flat cs]
theorem mem_idsL {cs : List AV} {i : Nat} : i ∈ idsL cs ↔ ∃ c ∈ cs, i ∈ idsV c := by rw [idsL_flat, List.mem_flatMap]
theorem one_ren (σ : Nat → Nat) (c : AV) : one (ren σ c) = one c := by cases c <;> simp [ren, one]

section
variable {S S' O O' : Nat → Prop} {ρ ρ' : Map} {w w' : World} {m : Rows}

/-- Without rows of the frame's own, the map counts for nothing. -/
theorem Rep.plain {a : AV} {v : Value} (h : Rep S ρ w a v) (hS : ∀ b, S b → S' b) : plainV a = true → Rep S' ρ' w a v := by
  induction h with
  | val h => intro _; exact .val h
  | junk => intro _; exact .junk
  | nils => intro _; exact .nils
  | ptr h => intro hp; simp [plainV] at hp
  | sl hx hl hc h0 => intro hp; simp [plainV] at hp
  | ext vs hl hn hp ho hA hr ih =>
    intro _
    refine .ext vs hl hn hp ho (fun hne => ?_) (fun j c hj => ih j c hj ?_)
    · obtain ⟨b, e, hs, hc⟩ := hA hne
      exact ⟨b, e, hS _ hs, hc⟩
    · rw [plainL_all, List.all_eq_true] at hp
      exact hp c (List.mem_of_getElem? hj)
  | eptr vs hp ho hs hA hr ih =>
    intro _
    refine .eptr vs hp ho (fun hne => hS _ (hs hne)) hA (fun j c hj => ih j c hj ?_)
    rw [plainL_all, List.all_eq_true] at hp
    exact hp c (List.mem_of_getElem? hj)
  | agg hl ho hr ih =>
    intro hp
    rw [plainV, plainL_all, List.all_eq_true] at hp
    exact .agg hl ho (fun j c v h1 h2 => ih j c v h1 h2 (hp c (List.mem_of_getElem? h1)))
  | tup hl hr ih =>
    intro hp
    rw [plainV, plainL_all, List.all_eq_true] at hp
    exact .tup hl (fun j c v h1 h2 => ih j c v h1 h2 (hp c (List.mem_of_getElem? h1)))
  | fn hl hr ih =>
    intro hp
    rw [plainV, plainL_all, List.all_eq_true] at hp
    exact .fn hl (fun j c v h1 h2 => ih j c v h1 h2 (hp c (List.mem_of_getElem? h1)))

/-- Without memory by what it holds, the blocks that nobody writes count for nothing. -/
theorem Rep.noExt {a : AV} {v : Value} (h : Rep S ρ w a v) : noExt a = true → Rep S' ρ w a v := by
  induction h with
  | val h => intro _; exact .val h
  | junk => intro _; exact .junk
  | nils => intro _; exact .nils
  | ptr h => intro hp; exact .ptr h
  | sl hx hl hc h0 => intro hp; exact .sl hx hl hc h0
  | ext vs hl hn hp ho hA hr ih => intro hp; simp [AI.noExt] at hp
  | eptr vs hp ho hs hA hr ih => intro hp; simp [AI.noExt] at hp
  | agg hl ho hr ih =>
    intro hp
    rw [AI.noExt, noExtL_all, List.all_eq_true] at hp
    exact .agg hl ho (fun j c v h1 h2 => ih j c v h1 h2 (hp c (List.mem_of_getElem? h1)))
  | tup hl hr ih =>
    intro hp
    rw [AI.noExt, noExtL_all, List.all_eq_true] at hp
    exact .tup hl (fun j c v h1 h2 => ih j c v h1 h2 (hp c (List.mem_of_getElem? h1)))
  | fn hl hr ih =>
    intro hp
    rw [AI.noExt, noExtL_all, List.all_eq_true] at hp
    exact .fn hl (fun j c v h1 h2 => ih j c v h1 h2 (hp c (List.mem_of_getElem? h1)))

/-- Renumbered values stand for the same. -/
theorem Rep.ren {a : AV} {v : Value} (h : Rep S ρ w a v) (σ : Nat → Nat) : (∀ id ∈ idsV a, ρ' (σ id) = ρ id) → Rep S ρ' w (ren σ a) v := by
  induction h with
  | val h => intro _; simp only [AI.ren]; exact .val h
  | junk => intro _; simp only [AI.ren]; exact .junk
  | nils => intro _; simp only [AI.ren]; exact .nils
  | ptr h => intro hi; simp only [AI.ren]; exact .ptr ((hi _ (by simp [idsV])).trans h)
  | sl hx hl hc h0 => intro hi; simp only [AI.ren]; exact .sl ((hi _ (by simp [idsV])).trans hx) hl hc h0
  | ext vs hl hn hp ho hA hr ih =>
    intro _
    simp only [AI.ren]
    exact (Rep.ext vs hl hn hp ho hA hr).plain (fun _ h => h) rfl
  | eptr vs hp ho hS hA hr ih =>
    intro _
    simp only [AI.ren]
    exact (Rep.eptr vs hp ho hS hA hr).plain (fun _ h => h) rfl
  | agg hl ho hr ih =>
    intro hi
    simp only [AI.ren, renL_map]
    refine .agg (by simpa using hl) (fun c hc => ?_) (fun j c v h1 h2 => ?_)
    · obtain ⟨c', h1, rfl⟩ := List.mem_map.1 hc
      rw [one_ren]; exact ho c' h1
    · rw [List.getElem?_map] at h1
      obtain ⟨c', h3, rfl⟩ := Option.map_eq_some_iff.1 h1
      exact ih j c' v h3 h2 (fun id hid => hi id (by simp only [idsV, mem_idsL]; exact ⟨c', List.mem_of_getElem? h3, hid⟩))
  | tup hl hr ih =>
    intro hi
    simp only [AI.ren, renL_map]
    refine .tup (by simpa using hl) (fun j c v h1 h2 => ?_)
    rw [List.getElem?_map] at h1
    obtain ⟨c', h3, rfl⟩ := Option.map_eq_some_iff.1 h1
    exact ih j c' v h3 h2 (fun id hid => hi id (by simp only [idsV, mem_idsL]; exact ⟨c', List.mem_of_getElem? h3, hid⟩))
  | fn hl hr ih =>
    intro hi
    simp only [AI.ren, renL_map]
    refine .fn (by simpa using hl) (fun j c v h1 h2 => ?_)
    rw [List.getElem?_map] at h1
    obtain ⟨c', h3, rfl⟩ := Option.map_eq_some_iff.1 h1
    exact ih j c' v h3 h2 (fun id hid => hi id (by simp only [idsV, mem_idsL]; exact ⟨c', List.mem_of_getElem? h3, hid⟩))

theorem mapO_get {f : AV → Option AV} : ∀ {cs as : List AV}, mapO f cs = some as → cs.length = as.length ∧ ∀ (j : Nat) (b : AV), as[j]? = some b → ∃ c, cs[j]? = some c ∧ f c = some b
  | [], as, h => by simp [mapO] at h; subst h; exact ⟨rfl, fun j b hj => by simp at hj⟩
  | c :: cs, as, h => by
    simp only [mapO] at h
    cases h1 : f c with
    | none => simp [h1] at h
    | some b =>
      cases h2 : mapO f cs with
      | none => simp [h1, h2] at h
      | some bs =>
        simp [h1, h2] at h
        subst h
        obtain ⟨k1, k2⟩ := mapO_get h2
        refine ⟨by simp [k1], fun j x hj => ?_⟩
        cases j with
        | zero => simp at hj; subst hj; exact ⟨c, rfl, h1⟩
        | succ j => obtain ⟨q, q1, q2⟩ := k2 j x (by simpa using hj); exact ⟨q, by simpa using q1, q2⟩

/-- What the callee may read besides: the rows that are not handed over by reference. -/
def Viewed (S : Nat → Prop) (ρ : Map) (m : Rows) (ids : List Nat) : Nat → Prop := fun b => S b ∨ ∃ id r L, m id = some r ∧ r.live = true ∧ ¬ id ∈ ids ∧ ρ id = some (some L) ∧ L.blk = b

def calleeMap (ρ : Map) (ids : List Nat) : Map := fun j => match ids[j]? with
  | some id => ρ id
  | none => none

theorem calleeMap_index {ids : List Nat} {id : Nat} (h : id ∈ ids) : calleeMap ρ ids (index ids id) = ρ id := by
  unfold calleeMap index
  have hlt : ids.idxOf id < ids.length := List.idxOf_lt_length_of_mem h
  rw [List.getElem?_eq_getElem hlt, List.getElem_idxOf hlt]

theorem pass_one {byRef : Bool} {ids : List Nat} : ∀ {n : Nat} {a a' : AV}, passV byRef m ids n a = some a' → one a = true → one a' = true
  | 0, a, a', h, _ => by simp [passV] at h
  | n + 1, a, a', h, ho => by
    cases a <;> simp only [passV] at h
    case junk => cases h
    case val => injection h with h; subst h; rfl
    case nils => injection h with h; subst h; cases byRef <;> rfl
    case ptr => split at h <;> first | (injection h with h; subst h; rfl) | cases h
    case sl =>
      split at h
      · injection h with h; subst h; rfl
      · split at h
        · split at h
          · split at h
            · split at h
              · injection h with h; subst h; rfl
              · split at h
                · split at h
                  · injection h with h; subst h; rfl
                  · cases h
                · cases h
            · cases h
          · cases h
        · cases h
    case ext => injection h with h; subst h; rfl
    case eptr => injection h with h; subst h; rfl
    case agg => simp [one] at ho
    case tup => simp [one] at ho
    case fn => obtain ⟨q, _, rfl⟩ := Option.map_eq_some_iff.1 h; rfl

theorem pass_rep {byRef : Bool} {ids : List Nat} (hm : MR S O ρ m w) : ∀ {n : Nat} {a a' : AV} {v : Value}, passV byRef m ids n a = some a' → Rep S ρ w a v → Rep (Viewed S ρ m ids) (calleeMap ρ ids) w a' v
  | 0, a, a', v, h, _ => by simp [passV] at h
  | n + 1, a, a', v, h, hr => by
    cases a <;> simp only [passV] at h
    case junk => cases h
    case val u => injection h with h; subst h; obtain ⟨rfl, hf⟩ := hr.val_inv; exact .val hf
    case nils =>
      injection h with h
      subst h
      obtain rfl := hr.nils_inv
      cases byRef
      · exact .ext_of (by simp [plainL]) (Nat.le_refl _) (fun h => by omega) (fun _ h => by cases h) (fun h => absurd rfl h)
      · exact .nils
    case ptr id off =>
      split at h
      · rename_i hc
        injection h with h
        subst h
        obtain ⟨L, hL, rfl⟩ := hr.ptr_inv
        exact .ptr ((calleeMap_index (by simpa using hc)).trans hL)
      · cases h
    case sl id off len z =>
      obtain ⟨A, cap, x, rfl, hx, hl, hc, h0⟩ := hr.sl_inv
      split at h
      · rename_i hmem
        injection h with h
        subst h
        exact .sl ((calleeMap_index (by simpa using hmem)).trans hx) hl hc h0
      · rename_i hmem
        have hmem' : ¬ id ∈ ids := by simpa using hmem
        split at h
        · rename_i r hrow
          split at h
          · rename_i hlive
            split at h
            · rename_i cs hg
              obtain ⟨e1, e2⟩ := getCells_eq hg
              -- where the cells lie
              have hA : cs ≠ [] → ∃ b, A = some b ∧ Viewed S ρ m ids b.block ∧ Reads S ρ w b cs ∧ ∀ c ∈ cs, one c = true := by
                intro hne
                have hp : 0 < cap := by
                  rcases Nat.eq_zero_or_pos cap with hp | hp
                  · have : len = 0 := by omega
                    subst this
                    exact absurd (List.eq_nil_of_length_eq_zero (by simpa using e2)) hne
                  · exact hp
                obtain ⟨L, rfl, rfl, _, hrd, hone, _, _⟩ := hm.slCells (n := len) hrow hlive hx hc hp
                exact ⟨_, rfl, .inr ⟨id, r, L, hrow, hlive, hmem', hx, rfl⟩, by rw [e1]; exact hrd.take _, fun c hc => by rw [e1] at hc; exact hone c (List.mem_of_mem_drop (List.mem_of_mem_take hc))⟩
              have hn : 0 < len → A.isSome = true := by
                intro hp
                obtain ⟨L, _, e, _⟩ := hc (by omega)
                rw [e]; rfl
              have hone : ∀ c ∈ cs, one c = true := by
                intro c hcc
                by_cases hne : cs = []
                · subst hne; cases hcc
                · obtain ⟨_, _, _, _, h1⟩ := hA hne; exact h1 c hcc
              split at h
              · rename_i hpl
                injection h with h
                subst h
                refine .ext_of hpl hl hn hone (fun hne => ?_)
                obtain ⟨b, e, hs, hrd, _⟩ := hA hne
                refine ⟨b, e, hs, fun j c hj => ?_⟩
                obtain ⟨u, u1, u2⟩ := hrd j c hj
                refine ⟨u, u1, u2.plain (fun _ h => .inl h) ?_⟩
                rw [plainL_all, List.all_eq_true] at hpl
                exact hpl c (List.mem_of_getElem? hj)
              · split at h
                · rename_i cs' hmap
                  split at h
                  · rename_i hpl
                    injection h with h
                    subst h
                    obtain ⟨m1, m2⟩ := mapO_get hmap
                    refine .ext_of hpl hl hn (fun c hcc => ?_) (fun hne => ?_)
                    · obtain ⟨j, hj⟩ := List.mem_iff_getElem?.1 hcc
                      obtain ⟨q, q1, q2⟩ := m2 j c hj
                      exact pass_one q2 (hone q (List.mem_of_getElem? q1))
                    · have hne' : cs ≠ [] := fun e => hne (List.eq_nil_of_length_eq_zero (by rw [← m1, e]; rfl))
                      obtain ⟨b, e, hs, hrd, _⟩ := hA hne'
                      refine ⟨b, e, hs, fun j c hj => ?_⟩
                      obtain ⟨q, q1, q2⟩ := m2 j c hj
                      obtain ⟨u, u1, u2⟩ := hrd j q q1
                      exact ⟨u, u1, pass_rep hm q2 u2⟩
                  · cases h
                · cases h
            · cases h
          · cases h
        · cases h
    case ext cs k => injection h with h; subst h; exact hr.plain (fun _ h => .inl h) rfl
    case eptr cs => injection h with h; subst h; exact hr.plain (fun _ h => .inl h) rfl
    case agg cs =>
      obtain ⟨as, h1, rfl⟩ := Option.map_eq_some_iff.1 h
      obtain ⟨vs, rfl, hrl, ho⟩ := hr.agg_inv
      obtain ⟨m1, m2⟩ := mapO_get h1
      refine .agg_of (RepL.mk (by rw [← m1]; exact hrl.length) (fun j c u hj hu => ?_)) (fun c hc => ?_)
      · obtain ⟨q, q1, q2⟩ := m2 j c hj
        exact pass_rep hm q2 (hrl.get j q u q1 hu)
      · obtain ⟨j, hj⟩ := List.mem_iff_getElem?.1 hc
        obtain ⟨q, q1, q2⟩ := m2 j c hj
        exact pass_one q2 (ho q (List.mem_of_getElem? q1))
    case tup cs =>
      obtain ⟨as, h1, rfl⟩ := Option.map_eq_some_iff.1 h
      obtain ⟨vs, rfl, hrl⟩ := hr.tup_inv
      obtain ⟨m1, m2⟩ := mapO_get h1
      refine .tup_of (RepL.mk (by rw [← m1]; exact hrl.length) (fun j c u hj hu => ?_))
      obtain ⟨q, q1, q2⟩ := m2 j c hj
      exact pass_rep hm q2 (hrl.get j q u q1 hu)
    case fn f cs =>
      obtain ⟨as, h1, rfl⟩ := Option.map_eq_some_iff.1 h
      obtain ⟨vs, rfl, hrl⟩ := hr.fn_inv
      obtain ⟨m1, m2⟩ := mapO_get h1
      refine .fn_of (RepL.mk (by rw [← m1]; exact hrl.length) (fun j c u hj hu => ?_))
      obtain ⟨q, q1, q2⟩ := m2 j c hj
      exact pass_rep hm q2 (hrl.get j q u q1 hu)

/-- If no view is made, nothing more has to stand still. -/
theorem pass_same {byRef : Bool} {ids : List Nat} : ∀ {n : Nat} {a a' : AV} {v : Value}, passV byRef m ids n a = some a' → Rep S ρ w a v → (∀ i ∈ idsV a, i ∈ ids) → Rep S (calleeMap ρ ids) w a' v
  | 0, a, a', v, h, _, _ => by simp [passV] at h
  | n + 1, a, a', v, h, hr, hi => by
    cases a <;> simp only [passV] at h
    case junk => cases h
    case val u => injection h with h; subst h; obtain ⟨rfl, hf⟩ := hr.val_inv; exact .val hf
    case nils =>
      injection h with h
      subst h
      obtain rfl := hr.nils_inv
      cases byRef
      · exact .ext_of (by simp [plainL]) (Nat.le_refl _) (fun h => by omega) (fun _ h => by cases h) (fun h => absurd rfl h)
      · exact .nils
    case ptr id off =>
      split at h
      · rename_i hc
        injection h with h
        subst h
        obtain ⟨L, hL, rfl⟩ := hr.ptr_inv
        exact .ptr ((calleeMap_index (by simpa using hc)).trans hL)
      · cases h
    case sl id off len z =>
      obtain ⟨A, cap, x, rfl, hx, hl, hc, h0⟩ := hr.sl_inv
      have hmem : id ∈ ids := hi id (by simp [idsV])
      rw [if_pos (by simpa using hmem)] at h
      injection h with h
      subst h
      exact .sl ((calleeMap_index hmem).trans hx) hl hc h0
    case ext cs k => injection h with h; subst h; exact hr.plain (fun _ h => h) rfl
    case eptr cs => injection h with h; subst h; exact hr.plain (fun _ h => h) rfl
    case agg cs =>
      obtain ⟨as, h1, rfl⟩ := Option.map_eq_some_iff.1 h
      obtain ⟨vs, rfl, hrl, ho⟩ := hr.agg_inv
      obtain ⟨m1, m2⟩ := mapO_get h1
      refine .agg_of (RepL.mk (by rw [← m1]; exact hrl.length) (fun j c u hj hu => ?_)) (fun c hc => ?_)
      · obtain ⟨q, q1, q2⟩ := m2 j c hj
        exact pass_same q2 (hrl.get j q u q1 hu) (fun i hii => hi i (by simp only [idsV, mem_idsL]; exact ⟨q, List.mem_of_getElem? q1, hii⟩))
      · obtain ⟨j, hj⟩ := List.mem_iff_getElem?.1 hc
        obtain ⟨q, q1, q2⟩ := m2 j c hj
        exact pass_one q2 (ho q (List.mem_of_getElem? q1))
    case tup cs =>
      obtain ⟨as, h1, rfl⟩ := Option.map_eq_some_iff.1 h
      obtain ⟨vs, rfl, hrl⟩ := hr.tup_inv
      obtain ⟨m1, m2⟩ := mapO_get h1
      refine .tup_of (RepL.mk (by rw [← m1]; exact hrl.length) (fun j c u hj hu => ?_))
      obtain ⟨q, q1, q2⟩ := m2 j c hj
      exact pass_same q2 (hrl.get j q u q1 hu) (fun i hii => hi i (by simp only [idsV, mem_idsL]; exact ⟨q, List.mem_of_getElem? q1, hii⟩))
    case fn f cs =>
      obtain ⟨as, h1, rfl⟩ := Option.map_eq_some_iff.1 h
      obtain ⟨vs, rfl, hrl⟩ := hr.fn_inv
      obtain ⟨m1, m2⟩ := mapO_get h1
      refine .fn_of (RepL.mk (by rw [← m1]; exact hrl.length) (fun j c u hj hu => ?_))
      obtain ⟨q, q1, q2⟩ := m2 j c hj
      exact pass_same q2 (hrl.get j q u q1 hu) (fun i hii => hi i (by simp only [idsV, mem_idsL]; exact ⟨q, List.mem_of_getElem? q1, hii⟩))

/-- What is reached is closed. -/
theorem reach_spec (rows : Rows) : ∀ (n : Nat) (acc todo ids : List Nat), reach rows n acc todo = some ids → acc.Nodup → (∀ i ∈ acc, ∀ k ∈ idsR rows i, k ∈ acc ∨ k ∈ todo) →
    ids.Nodup ∧ (∀ i ∈ acc, i ∈ ids) ∧ (∀ i ∈ todo, i ∈ ids) ∧ (∀ i ∈ ids, ∀ k ∈ idsR rows i, k ∈ ids) ∧ acc <+: ids := by
  intro n
  induction n with
  | zero =>
    intro acc todo ids h hn hc
    cases todo with
    | nil => simp [reach] at h; subst h; exact ⟨hn, fun _ h => h, (fun _ h => by cases h), (fun i hi k hk => by
        rcases hc i hi k hk with h | h
        · exact h
        · cases h), List.prefix_refl _⟩
    | cons i is => simp [reach] at h
  | succ n ih =>
    intro acc todo ids h hn hc
    cases todo with
    | nil => simp [reach] at h; subst h; exact ⟨hn, fun _ h => h, (fun _ h => by cases h), (fun i hi k hk => by
        rcases hc i hi k hk with h | h
        · exact h
        · cases h), List.prefix_refl _⟩
    | cons i is =>
      simp only [reach] at h
      split at h
      · rename_i hmem
        have hmem' : i ∈ acc := by simpa using hmem
        obtain ⟨h1, h2, h3, h4, h5⟩ := ih acc is ids h hn (fun j hj k hk => by
          rcases hc j hj k hk with h | h
          · exact .inl h
          · rcases List.mem_cons.1 h with rfl | h
            · exact .inl hmem'
            · exact .inr h)
        exact ⟨h1, h2, (fun j hj => by
          rcases List.mem_cons.1 hj with rfl | hj
          · exact h2 _ hmem'
          · exact h3 j hj), h4, h5⟩
      · rename_i hmem
        have hmem' : ¬ i ∈ acc := by simpa using hmem
        obtain ⟨h1, h2, h3, h4, h5⟩ := ih (acc ++ [i]) (idsR rows i ++ is) ids h (by
          rw [List.nodup_append]
          exact ⟨hn, by simp, fun a ha b hb => by simp at hb; subst hb; exact fun e => hmem' (e ▸ ha)⟩) (fun j hj k hk => by
          rcases List.mem_append.1 hj with hj | hj
          · rcases hc j hj k hk with h | h
            · exact .inl (List.mem_append_left _ h)
            · rcases List.mem_cons.1 h with rfl | h
              · exact .inl (by simp)
              · exact .inr (List.mem_append_right _ h)
          · simp at hj
            subst hj
            exact .inr (List.mem_append_left _ hk))
        refine ⟨h1, fun j hj => h2 j (List.mem_append_left _ hj), fun j hj => ?_, h4, (List.prefix_append _ _).trans h5⟩
        rcases List.mem_cons.1 hj with rfl | hj
        · exact h2 _ (by simp)
        · exact h3 j (List.mem_append_right _ hj)

theorem rowsAt_get : ∀ {ids : List Nat} {rs : List Row}, rowsAt m ids = some rs → rs.length = ids.length ∧ ∀ (j : Nat) (r : Row), rs[j]? = some r → ∃ id, ids[j]? = some id ∧ m id = some r
  | [], rs, h => by simp [rowsAt] at h; subst h; exact ⟨rfl, fun j r hj => by simp at hj⟩
  | i :: is, rs, h => by
    simp only [rowsAt] at h
    cases h1 : m i with
    | none => simp [h1] at h
    | some r =>
      cases h2 : rowsAt m is with
      | none => simp [h1, h2] at h
      | some qs =>
        simp [h1, h2] at h
        subst h
        obtain ⟨k1, k2⟩ := rowsAt_get h2
        refine ⟨by simp [k1], fun j q hj => ?_⟩
        cases j with
        | zero => simp at hj; subst hj; exact ⟨i, rfl, h1⟩
        | succ j => obtain ⟨id, q1, q2⟩ := k2 j q (by simpa using hj); exact ⟨id, by simpa using q1, q2⟩
end
end Go.AI

/-
  Calls: if the callee does what the machine of values says, so does the call.
-/
set_option linter.unusedVariables false
set_option linter.unusedSimpArgs false
namespace Go.AI

/-- The model's call does what the machine says of it. -/
def FnOk (E : Env) (f : FuncId) (args : List AV) (rows : List Row) (r : AV) (out : List Row) : Prop :=
  ∀ (S O : Nat → Prop) (ρ : Map) (w : World) (vals : Array Value), Fr S O w → GlobOk E S w → RepL S ρ w args vals.toList → MR S O ρ (fun i => rows[i]?) w → (∀ i, rows.length ≤ i → ρ i = none) →
    Calls E.P f vals w fun e w' => ∃ v ρ', e = .returned v ∧ (∀ i, i < rows.length → ρ' i = ρ i) ∧ (∀ i, out.length ≤ i → ρ' i = none) ∧ Kp O w w' ∧ Rep S ρ' w' r v ∧ MR S O ρ' (fun i => out[i]?) w'

section
variable {E : Env} {S S' O O' : Nat → Prop} {ρ ρ' : Map} {w w' : World} {m : Rows} {t : Nat → AV} {a : Act} {Q : Exit → Act → World → Prop} {next : Nat} {e : Eff} {o : Oper}

theorem GlobOk.mono (h : GlobOk E S w) (hS : ∀ b, S b → S' b) : GlobOk E S' w := fun g cs hg ρ => (h g cs hg ρ).plain hS rfl
theorem GlobOk.kp (h : GlobOk E S w) (f : Fr S O w) (k : Kp O w w') : GlobOk E S w' := fun g cs hg ρ => (h g cs hg ρ).kp f k (.refl _)

theorem Rep.ids {a : AV} {v : Value} (h : Rep S ρ w a v) : ∀ id ∈ idsV a, ∃ x, ρ id = some x := by
  induction h with
  | val h => intro id hi; simp [idsV] at hi
  | nils => intro id hi; simp [idsV] at hi
  | junk => intro id hi; simp [idsV] at hi
  | ptr h => intro id hi; simp [idsV] at hi; subst hi; exact ⟨_, h⟩
  | sl hx => intro id hi; simp [idsV] at hi; subst hi; exact ⟨_, hx⟩
  | ext => intro id hi; simp [idsV] at hi
  | eptr => intro id hi; simp [idsV] at hi
  | agg hl _ _ ih | tup hl _ ih | fn hl _ ih =>
    intro id hi
    simp only [idsV, mem_idsL] at hi
    obtain ⟨c, hc, hid⟩ := hi
    obtain ⟨j, hj⟩ := List.mem_iff_getElem?.1 hc
    have hlt := (List.getElem?_eq_some_iff.1 hj).1
    exact ih j c _ hj (Array.getElem?_eq_getElem (by omega)) id hid

theorem RowOk.ren {x : Option Loc} {r : Row} (h : RowOk S ρ w x r) (σ : Nat → Nat) (hi : ∀ id ∈ idsL r.cells, ρ' (σ id) = ρ id) : RowOk S ρ' w x (renR σ r) := by
  cases x with
  | none => exact ⟨by simp [renR, h.1, renL], h.2⟩
  | some L =>
    obtain ⟨h1, h2, h3, cs, ty, fr, h4, h5, h6, h7, h8, h9⟩ := h
    refine ⟨h1, by simp [renR, renL_map, h2], h3, cs, ty, fr, h4, h5, h6, h7, fun c hc => ?_, fun j c hj => ?_⟩
    · simp only [renR, renL_map] at hc
      obtain ⟨c', k1, rfl⟩ := List.mem_map.1 hc
      rw [one_ren]; exact h8 c' k1
    · simp only [renR, renL_map, List.getElem?_map] at hj
      obtain ⟨c', k1, rfl⟩ := Option.map_eq_some_iff.1 hj
      obtain ⟨v, v1, v2⟩ := h9 j c' k1
      exact ⟨v, v1, v2.ren σ (fun id hid => hi id (mem_idsL.2 ⟨c', List.mem_of_getElem? k1, hid⟩))⟩

theorem RowOk.wider {x : Option Loc} {r : Row} (h : RowOk S ρ w x r) (hS : ∀ b, S b → S' b) : RowOk S' ρ w x r := by
  cases x with
  | none => exact h
  | some L =>
    obtain ⟨h1, h2, h3, cs, ty, fr, h4, h5, h6, h7, h8, h9⟩ := h
    refine ⟨h1, h2, h3, cs, ty, fr, h4, h5, h6, h7, h8, fun j c hj => ?_⟩
    obtain ⟨v, v1, v2⟩ := h9 j c hj
    exact ⟨v, v1, v2.mono (.refl _) hS (fun _ _ => rfl)⟩

theorem RowOk.noExt {x : Option Loc} {r : Row} (h : RowOk S ρ w x r) (hn : noExtL r.cells = true) : RowOk S' ρ w x r := by
  cases x with
  | none => exact h
  | some L =>
    obtain ⟨h1, h2, h3, cs, ty, fr, h4, h5, h6, h7, h8, h9⟩ := h
    refine ⟨h1, h2, h3, cs, ty, fr, h4, h5, h6, h7, h8, fun j c hj => ?_⟩
    obtain ⟨v, v1, v2⟩ := h9 j c hj
    rw [noExtL_all, List.all_eq_true] at hn
    exact ⟨v, v1, v2.noExt (hn c (List.mem_of_getElem? hj))⟩

theorem RowOk.ids {x : Option Loc} {r : Row} (h : RowOk S ρ w x r) : ∀ id ∈ idsL r.cells, ∃ y, ρ id = some y := by
  intro id hid
  cases x with
  | none => rw [h.1] at hid; simp [idsL] at hid
  | some L =>
    obtain ⟨c, hc, hid⟩ := mem_idsL.1 hid
    obtain ⟨j, hj⟩ := List.mem_iff_getElem?.1 hc
    obtain ⟨v, _, v2⟩ := h.2.2.2.choose_spec.choose_spec.choose_spec.2.2.2.2.2 j c hj
    exact v2.ids id hid

theorem lookupU_zip : ∀ (ids : List Nat) (l : List Row) (id : Nat), ids.Nodup → l.length = ids.length → (∀ (j : Nat), (ids[j]? : Option Nat) = some id → lookupU (ids.zip l) id = (l[j]? : Option Row)) ∧ (¬ id ∈ ids → lookupU (ids.zip l) id = none)
  | [], [], id, _, _ => ⟨fun j h => by simp at h, fun _ => rfl⟩
  | i :: is, r :: l, id, hn, hl => by
    rw [List.nodup_cons] at hn
    obtain ⟨k1, k2⟩ := lookupU_zip is l id hn.2 (by simpa using hl)
    refine ⟨fun j hj => ?_, fun hni => ?_⟩
    · cases j with
      | zero => simp at hj; subst hj; simp [lookupU]
      | succ j =>
        have hj' : is[j]? = some id := by simpa using hj
        have : i ≠ id := fun e => hn.1 (e ▸ List.mem_of_getElem? hj')
        simp only [List.zip_cons_cons, lookupU]
        rw [if_neg this, k1 j hj']
        simp
    · simp only [List.mem_cons, not_or] at hni
      simp only [List.zip_cons_cons, lookupU]
      rw [if_neg (fun e => hni.1 e.symm), k2 hni.2]
  | [], _ :: _, _, _, hl => by simp at hl
  | _ :: _, [], _, _, hl => by simp at hl

theorem run_call {P : Program} {cl : Call} {f : FuncId} {caps : Array Value} {fn : Func} (ho : o.op = .call cl) {fo : Operand} (hcl : cl.callee = .value fo) (hf : a.eval fo = .func (.func f) #[] caps) (hfn : P.funcs[f]? = some fn)
    (hnm : (fn.name == "runtime.NumGoroutine" || fn.body.isNone) = false) : (execOp a.eval o).run P w = .ok (.enter f (cl.args.map a.eval ++ caps)) w := by
  simp only [Bool.or_eq_false_iff] at hnm
  have h1 : fn.name ≠ "runtime.NumGoroutine" := by simpa using hnm.1
  have h2 : fn.body ≠ none := fun e => by rw [e] at hnm; simp at hnm
  simp [execOp, ho, resolve, hcl, hf, Deferred.ofValue, invoke, callFunc, hfn, h1, h2, Result.andThen]

theorem s_call (c : Cx E S O ρ w m t a) {cl : Call} (ho : o.op = .call cl) {fo : Operand} (hcl : cl.callee = .value fo) {f : FuncId} {as caps : List AV} (h1 : evs E t cl.args.toList = some as) (h2 : ev E t fo = some (.fn f caps))
    {rec : Task → Option Res} (hprim : E.prim f = none) (h : callA E rec f (as ++ caps) m next = some e) (hrec : ∀ args rows r out, rec (.fn f args rows) = some (.fn r out) → FnOk E f args rows r out)
    (hf : ∀ k, k < e.new.length → ρ (next + k) = none) : Goal E S O ρ w m next e o a Q := by
  unfold callA at h
  rw [hprim] at h
  simp only at h
  split at h
  case h_2 => cases h
  rename_i fn hfn
  split at h
  case isTrue => cases h
  rename_i hnm
  split at h
  case h_2 => cases h
  rename_i ids us hreach _
  split at h
  case h_2 => cases h
  rename_i args' rs hpass hrows
  split at h
  case h_2 => cases h
  rename_i r out hres
  split at h
  case isFalse => cases h
  rename_i hcond
  obtain ⟨hview, hlen⟩ := hcond
  injection h with h
  -- what is known of the numbers
  obtain ⟨hnd, _, hroots, hclosed, _⟩ := reach_spec m _ _ _ _ hreach List.nodup_nil (fun i hi => by cases hi)
  obtain ⟨hrl, hrg⟩ := rowsAt_get hrows
  obtain ⟨mo1, mo2⟩ := mapO_get hpass
  -- the values
  obtain ⟨cvs, ef, hcaps⟩ := (ev_rep c.tm c.gl h2).fn_inv
  have hargs := (evs_rep c.tm c.gl h1).append hcaps
  have hrun := run_call (w := w) (P := E.P) ho hcl ef hfn (Bool.eq_false_iff.2 hnm)
  have hvals : (cl.args.map a.eval ++ cvs).toList = cl.args.toList.map a.eval ++ cvs.toList := by simp
  -- which blocks stand still for the callee
  obtain ⟨S1, hS1, hsub, hargs1, hback⟩ : ∃ S1 : Nat → Prop, (∀ b, S b → S1 b) ∧ (∀ b, S1 b → Viewed S ρ m ids b) ∧ RepL S1 (calleeMap ρ ids) w args' (cl.args.map a.eval ++ cvs).toList ∧
      ((∀ b, S1 b → S b) ∨ (noExt r = true ∧ ∀ q ∈ out, noExtL q.cells = true)) := by
    rw [hvals]
    by_cases hv : (idsL (as ++ caps)).all ids.contains = true
    · refine ⟨S, fun _ h => h, fun _ h => .inl h, RepL.mk (by rw [← mo1]; exact hargs.length) (fun j x v hj hv' => ?_), .inl fun _ h => h⟩
      obtain ⟨q, q1, q2⟩ := mo2 j x hj
      refine pass_same q2 (hargs.get j q v q1 hv') (fun i hi => ?_)
      rw [List.all_eq_true] at hv
      simpa using hv i (mem_idsL.2 ⟨q, List.mem_of_getElem? q1, hi⟩)
    · refine ⟨Viewed S ρ m ids, fun _ h => .inl h, fun _ h => h, RepL.mk (by rw [← mo1]; exact hargs.length) (fun j x v hj hv' => ?_), .inr ?_⟩
      · obtain ⟨q, q1, q2⟩ := mo2 j x hj
        exact pass_rep c.mr q2 (hargs.get j q v q1 hv')
      · have : ¬ ((idsL (as ++ caps)).all ids.contains = true) := hv
        simp only [Bool.or_eq_true, Bool.and_eq_true, List.all_eq_true] at hview
        rcases hview with hh | hh
        · exact absurd (List.all_eq_true.2 hh) this
        · exact hh
  let O1 : Nat → Prop := fun b => w.heap.size ≤ b ∨ ∃ id r L, id ∈ ids ∧ m id = some r ∧ r.live = true ∧ ρ id = some (some L) ∧ L.blk = b
  have hOO : ∀ b, O1 b → O b := by
    rintro b (hb | ⟨id, r, L, _, g2, g3, g4, rfl⟩)
    · exact c.fr.new b hb
    · exact ((c.mr.ok id r _ g2 g3 g4).2 L rfl).1
  have hfr1 : Fr S1 O1 w := by
    refine ⟨fun b hb => ?_, fun b hb ho' => ?_, fun b hb => .inl hb⟩
    · rcases hsub b hb with hb | ⟨id, r, L, g1, g2, g3, g4, rfl⟩
      · exact c.fr.lt b hb
      · exact (c.mr.ok id r _ g1 g2 g4).1.lt
    · rcases hsub b hb with hb | ⟨id, r, L, g1, g2, g3, g4, rfl⟩
      · exact c.fr.no b hb (hOO b ho')
      · rcases ho' with ho' | ⟨id', r', L', k1, k2, k3, k4, k5⟩
        · have := (c.mr.ok id r _ g1 g2 g4).1.lt; omega
        · have := c.mr.inj id id' r r' L L' g1 k2 g2 k3 g4 k4 k5.symm
          exact g3 (this ▸ k1)
  -- the callee's rows
  have hcm : ∀ (j id : Nat), ids[j]? = some id → calleeMap ρ ids j = ρ id := fun j id hj => by simp only [calleeMap, hj]
  have hrow : ∀ (j : Nat) (q : Row), (rs.map (renR (index ids)))[j]? = some q → ∃ id q0, ids[j]? = some id ∧ m id = some q0 ∧ q = renR (index ids) q0 := by
    intro j q hq
    rw [List.getElem?_map] at hq
    obtain ⟨q0, k1, k2⟩ := Option.map_eq_some_iff.1 hq
    obtain ⟨id, g1, g2⟩ := hrg j q0 k1
    exact ⟨id, q0, g1, g2, k2.symm⟩
  have hmr1 : MR S1 O1 (calleeMap ρ ids) (fun i => (rs.map (renR (index ids)))[i]?) w := by
    refine ⟨fun j q hq => ?_, fun j q x hq hl hx => ?_, fun j j' q q' L L' hq hq' hl hl' hx hx' eb => ?_⟩
    · obtain ⟨id, q0, g1, g2, rfl⟩ := hrow j q hq
      rw [hcm j id g1]
      exact c.mr.known id q0 g2
    · obtain ⟨id, q0, g1, g2, rfl⟩ := hrow j q hq
      rw [hcm j id g1] at hx
      have hl0 : q0.live = true := hl
      obtain ⟨k1, k2⟩ := c.mr.ok id q0 x g2 hl0 hx
      refine ⟨(k1.ren (ρ' := calleeMap ρ ids) (index ids) (fun i hi => calleeMap_index (hclosed id (List.mem_of_getElem? g1) i ?_))).wider hS1, fun L e => ?_⟩
      · simp only [idsR, g2, hl0, if_true]; exact hi
      · have ho1 : O1 L.blk := .inr ⟨id, q0, L, List.mem_of_getElem? g1, g2, hl0, e ▸ hx, rfl⟩
        exact ⟨ho1, fun hs => hfr1.no _ hs ho1⟩
    · obtain ⟨id, q0, g1, g2, rfl⟩ := hrow j q hq
      obtain ⟨id', q0', g1', g2', rfl⟩ := hrow j' q' hq'
      rw [hcm j id g1] at hx
      rw [hcm j' id' g1'] at hx'
      have := c.mr.inj id id' q0 q0' L L' g2 g2' hl hl' hx hx' eb
      subst this
      exact (List.getElem?_inj (List.getElem?_eq_some_iff.1 g1).1 hnd).1 (g1.trans g1'.symm)
  have hrec' := hrec args' _ r out hres S1 O1 (calleeMap ρ ids) w (cl.args.map a.eval ++ cvs) hfr1 (c.gl.mono hS1) hargs1 hmr1 (fun i hi => by
    simp only [List.length_map] at hi
    simp only [calleeMap, List.getElem?_eq_none (show ids.length ≤ i by omega)])
  unfold Goal Oper.wp
  rw [hrun]
  refine Calls.mono hrec' ?_
  rintro e' w'' ⟨v, ρo, rfl, hag, hno, hkp, hrep, hmr⟩
  show OpK S O ρ w m next e o.dst a (a.put o.dst v) w''
  refine ⟨v, rfl, ?_⟩
  subst h
  simp only [List.length_map, List.length_drop] at hf
  generalize hτ : (fun j => if j < ids.length then ids.getD j 0 else next + (j - ids.length)) = τ
  let ρn : Map := fun id => if next ≤ id ∧ id < next + (out.length - ids.length) then ρo (ids.length + (id - next)) else ρ id
  have hlr : (rs.map (renR (index ids))).length = ids.length := by simp [hrl]
  have hle : ρ.le ρn := by
    intro id x hx
    show (if _ then _ else _) = _
    rw [if_neg]
    · exact hx
    · rintro ⟨g1, g2⟩
      have := hf (id - next) (by omega)
      rw [show next + (id - next) = id by omega, hx] at this
      cases this
  have hτ1 : ∀ j id, ids[j]? = some id → τ j = id := by
    intro j id hj
    rw [← hτ]
    have hlt := (List.getElem?_eq_some_iff.1 hj).1
    simp only [if_pos hlt, List.getD, hj, Option.getD_some]
  have hidsome : ∀ (j id : Nat), ids[j]? = some id → ∃ x, ρ id = some x := by
    intro j id hj
    have hlt := (List.getElem?_eq_some_iff.1 hj).1
    obtain ⟨id', g1, g2⟩ := hrg j _ (List.getElem?_eq_getElem (by omega))
    rw [hj] at g1
    cases g1
    exact c.mr.known id _ g2
  have hnτ : ∀ j x, ρo j = some x → ρn (τ j) = ρo j := by
    intro j x hx
    have hjo : j < out.length := by
      rcases Nat.lt_or_ge j out.length with h | h
      · exact h
      · rw [hno j h] at hx; cases hx
    rcases Nat.lt_or_ge j ids.length with hj | hj
    · have hg : ids[j]? = some ids[j] := List.getElem?_eq_getElem hj
      rw [hτ1 j _ hg]
      obtain ⟨y, hy⟩ := hidsome j _ hg
      rw [hle _ _ hy, hag j (by omega), hcm j _ hg, hy]
    · rw [← hτ]
      simp only [if_neg (show ¬ j < ids.length by omega)]
      show (if _ then _ else _) = _
      rw [if_pos (by omega)]
      congr 1
      omega
  have hkpO : Kp O w w'' := ⟨hkp.os, hkp.tape, hkp.output, hkp.size, fun b hb hno' => hkp.block b hb (fun h => hno' (hOO b h))⟩
  have hSs : ∀ b, S b → w''.heap[b]? = w.heap[b]? := fun b hb => hkpO.block b (c.fr.lt b hb) (c.fr.no b hb)
  -- a value or a row of the callee's, here
  have hrowok : ∀ j q x, out[j]? = some q → q.live = true → ρo j = some x → RowOk S ρn w'' x (renR τ q) ∧ ∀ L, x = some L → O1 L.blk ∧ O L.blk ∧ ¬ S L.blk := by
    intro j q x hq hl hx
    obtain ⟨k1, k2⟩ := hmr.ok j q x hq hl hx
    refine ⟨?_, fun L e => ⟨(k2 L e).1, hOO _ (k2 L e).1, fun hs => (k2 L e).2 (hS1 _ hs)⟩⟩
    have k3 : RowOk S ρo w'' x q := by
      rcases hback with hb | ⟨_, hb⟩
      · exact k1.wider hb
      · exact k1.noExt (hb q (List.mem_of_getElem? hq))
    exact k3.ren τ (fun id hid => by obtain ⟨y, hy⟩ := k3.ids id hid; exact hnτ id y hy)
  have hl2 : ((out.take ids.length).map (renR τ)).length = ids.length := by simp; omega
  have hlk := lookupU_zip ids ((out.take ids.length).map (renR τ))
  -- which row is which
  have hat : ∀ i q, applyM m next ⟨ren τ r, ids.zip ((out.take ids.length).map (renR τ)), (out.drop ids.length).map (renR τ), us⟩ i = some q →
      (∃ j q0, out[j]? = some q0 ∧ q = renR τ q0 ∧ i = τ j ∧ ((j < ids.length ∧ i ∈ ids) ∨ (ids.length ≤ j ∧ j < out.length ∧ next ≤ i ∧ i < next + (out.length - ids.length)))) ∨ (¬ i ∈ ids ∧ ¬(next ≤ i ∧ i < next + (out.length - ids.length)) ∧ m i = some q) := by
    intro i q hq
    simp only [applyM, List.length_map, List.length_drop] at hq
    obtain ⟨u1, u2⟩ := hlk i hnd hl2
    by_cases hi : i ∈ ids
    · obtain ⟨j, hj⟩ := List.mem_iff_getElem?.1 hi
      have hjl := (List.getElem?_eq_some_iff.1 hj).1
      rw [u1 j hj, List.getElem?_map, List.getElem?_take_of_lt hjl, List.getElem?_eq_getElem (by omega)] at hq
      simp at hq
      exact .inl ⟨j, _, List.getElem?_eq_getElem (by omega), hq.symm, (hτ1 j i hj).symm, .inl ⟨hjl, hi⟩⟩
    · rw [u2 hi] at hq
      by_cases hc : next ≤ i ∧ i < next + (out.length - ids.length)
      · simp only [if_pos hc] at hq
        rw [List.getElem?_map, List.getElem?_drop, List.getElem?_eq_getElem (by omega)] at hq
        simp at hq
        refine .inl ⟨ids.length + (i - next), _, List.getElem?_eq_getElem (by omega), hq.symm, ?_, .inr ⟨by omega, by omega, hc⟩⟩
        rw [← hτ]
        simp only [if_neg (show ¬ ids.length + (i - next) < ids.length by omega)]
        omega
      · simp only [if_neg hc] at hq
        exact .inr ⟨hi, hc, hq⟩
  have hjsome : ∀ j i, i = τ j → ((j < ids.length ∧ i ∈ ids) ∨ (ids.length ≤ j ∧ j < out.length ∧ next ≤ i ∧ i < next + (out.length - ids.length))) → ∀ q, out[j]? = some q → ρn i = ρo j ∧ ∃ x, ρo j = some x := by
    intro j i e hj q hq
    obtain ⟨x, hx⟩ := hmr.known j q hq
    exact ⟨by rw [e]; exact hnτ j x hx, x, hx⟩
  have hother : ∀ i q, ¬ i ∈ ids → m i = some q → q.live = true → ∀ L, ρ i = some (some L) → ¬ O1 L.blk := by
    rintro i q hi hq hl L hL (hb | ⟨id', r', L', k1, k2, k3, k4, k5⟩)
    · have := (c.mr.ok i q _ hq hl hL).1.lt; omega
    · have := c.mr.inj i id' q r' L L' hq k2 hl k3 hL k4 k5.symm
      exact hi (this ▸ k1)
  refine ⟨ρn, hle, fun id k1 k2 => ?_, hkpO, ?_, c.mr.step hle hSs (fun i q hq => ?_) (fun i i' q q' L L' hq hq' hl hl' hx hx' eb => ?_)⟩
  · show (if _ then _ else _) = _
    rw [if_neg (by simpa using k2)]
    exact k1
  · have h3 : Rep S ρo w'' r v := by
      rcases hback with hb | ⟨hb, _⟩
      · exact hrep.mono (.refl _) hb (fun _ _ => rfl)
      · exact hrep.noExt hb
    exact h3.ren τ (fun id hid => by obtain ⟨y, hy⟩ := h3.ids id hid; exact hnτ id y hy)
  · rcases hat i q hq with ⟨j, q0, g1, rfl, g3, g4⟩ | ⟨g1, g2, g3⟩
    · obtain ⟨k1, x, k2⟩ := hjsome j i g3 g4 q0 g1
      refine .inr ⟨⟨x, by rw [k1]; exact k2⟩, fun hl y hy => ?_⟩
      rw [k1] at hy
      obtain ⟨k3, k4⟩ := hrowok j q0 y g1 hl hy
      exact ⟨k3, fun L e => ⟨(k4 L e).2.1, (k4 L e).2.2⟩⟩
    · exact .inl ⟨g3, fun hl L hL => hkp.block _ (c.mr.ok i q _ g3 hl hL).1.lt (hother i q g1 g3 hl L hL)⟩
  · have hold : ∀ i, ¬(next ≤ i ∧ i < next + (out.length - ids.length)) → ρn i = ρ i := fun i hi => by show (if _ then _ else _) = _; rw [if_neg hi]
    rcases hat i q hq with ⟨j, q0, g1, rfl, g3, g4⟩ | ⟨g1, g2, g3⟩ <;> rcases hat i' q' hq' with ⟨j', q0', g1', rfl, g3', g4'⟩ | ⟨g1', g2', g3'⟩
    · obtain ⟨k1, _⟩ := hjsome j i g3 g4 q0 g1
      obtain ⟨k1', _⟩ := hjsome j' i' g3' g4' q0' g1'
      rw [k1] at hx
      rw [k1'] at hx'
      have := hmr.inj j j' q0 q0' L L' g1 g1' hl hl' hx hx' eb
      rw [g3, g3', this]
    · obtain ⟨k1, _⟩ := hjsome j i g3 g4 q0 g1
      rw [k1] at hx
      rw [hold i' g2'] at hx'
      have h6 := ((hrowok j q0 _ g1 hl hx).2 L rfl).1
      exact absurd (eb ▸ h6) (hother i' q' g1' g3' hl' L' hx')
    · obtain ⟨k1', _⟩ := hjsome j' i' g3' g4' q0' g1'
      rw [k1'] at hx'
      rw [hold i g2] at hx
      have h6 := ((hrowok j' q0' _ g1' hl' hx').2 L' rfl).1
      exact absurd (eb ▸ h6) (hother i q g1 g3 hl L hx)
    · rw [hold i g2] at hx
      rw [hold i' g2'] at hx'
      exact c.mr.inj i i' q q' L L' g3 g3' hl hl' hx hx' eb
end
end Go.AI
