/-
  What is no longer wanted of a state may be forgotten, rows renumbered; loops by induction.
-/
import Derived.Test.YtjpfohbfklghdaaGreatDoorN4
set_option linter.all false
set_option linter.unusedVariables false
namespace Go.AI

/-- State s2 is what is left of s. -/
def Cln (k : Nat) (s s2 : St) : Prop := ∀ (S O : Nat → Prop) (ρ0 : Map) (w0 : World) (nt : Nat), (∀ i, k ≤ i → ρ0 i = none) → ∀ a w, CInv S O ρ0 w0 nt s a w → CInv S O ρ0 w0 nt s2 a w

theorem Cln.refl (k : Nat) (s : St) : Cln k s s := fun _ _ _ _ _ _ _ _ h => h
theorem Cln.trans {k : Nat} {a b c : St} (h : Cln k a b) (h' : Cln k b c) : Cln k a c := fun S O ρ0 w0 nt hk a w hi => h' S O ρ0 w0 nt hk a w (h S O ρ0 w0 nt hk a w hi)

theorem cln {k : Nat} {s s2 : St} (σ τ : Nat → Nat) (hk : k ≤ s2.rows.length) (hσ : ∀ i, i < k → σ i = i)
    (hinj : ∀ i j, i < s2.rows.length → j < s2.rows.length → σ i = σ j → i = j)
    (hr : ∀ i r2, s2.rows[i]? = some r2 → ∃ r, s.rows[σ i]? = some r ∧ r2 = renR τ r ∧ ∀ id ∈ idsL r.cells, τ id < s2.rows.length ∧ σ (τ id) = id)
    (ht : ∀ d, s2.t d = .junk ∨ (s2.t d = ren τ (s.t d) ∧ ∀ id ∈ idsV (s.t d), τ id < s2.rows.length ∧ σ (τ id) = id)) : Cln k s s2 := by
  intro S O ρ0 w0 nt hk0 a w hin
  obtain ⟨h1, h2, h3, ρ, h4, h5, h6, h7⟩ := hin
  have hlt : ∀ i r2, s2.rows[i]? = some r2 → i < s2.rows.length := fun i r2 h => (List.getElem?_eq_some_iff.1 h).1
  have hc : ∀ i, i < s2.rows.length → (if i < s2.rows.length then ρ (σ i) else none) = ρ (σ i) := fun i h => if_pos h
  have hid : ∀ id, τ id < s2.rows.length ∧ σ (τ id) = id → (if τ id < s2.rows.length then ρ (σ (τ id)) else none) = ρ id := fun id h => by rw [if_pos h.1, h.2]
  refine ⟨h1, h2, h3, fun i => if i < s2.rows.length then ρ (σ i) else none, ?_, ⟨?_, ?_, ?_⟩, ?_, ?_⟩
  · intro id x hx
    have hlk : id < k := by
      rcases Nat.lt_or_ge id k with h | h
      · exact h
      · rw [hk0 id h] at hx; cases hx
    show (if id < s2.rows.length then ρ (σ id) else none) = some x
    rw [hc id (by omega), hσ id hlk]
    exact h4 id x hx
  · intro id r2 h
    obtain ⟨r, e, _⟩ := hr id r2 h
    obtain ⟨x, hx⟩ := h5.known _ r e
    exact ⟨x, by show (if id < s2.rows.length then ρ (σ id) else none) = some x; rw [hc id (hlt _ _ h)]; exact hx⟩
  · intro id r2 x h hl hx
    obtain ⟨r, e, rfl, hids⟩ := hr id r2 h
    have hx' : (if id < s2.rows.length then ρ (σ id) else none) = some x := hx
    rw [hc id (hlt _ _ h)] at hx'
    obtain ⟨k1, k2⟩ := h5.ok (σ id) r x e hl hx'
    exact ⟨k1.ren (ρ' := fun i => if i < s2.rows.length then ρ (σ i) else none) τ (fun i hi => hid i (hids i hi)), k2⟩
  · intro id id' r2 r2' L L' h h' hl hl' hx hx' eb
    obtain ⟨r, e, rfl, _⟩ := hr id r2 h
    obtain ⟨r', e', rfl, _⟩ := hr id' r2' h'
    have hx : (if id < s2.rows.length then ρ (σ id) else none) = some (some L) := hx
    have hx' : (if id' < s2.rows.length then ρ (σ id') else none) = some (some L') := hx'
    rw [hc id (hlt _ _ h)] at hx
    rw [hc id' (hlt _ _ h')] at hx'
    exact hinj _ _ (hlt _ _ h) (hlt _ _ h') (h5.inj _ _ r r' L L' e e' hl hl' hx hx' eb)
  · intro d
    rcases ht d with h | ⟨h, hids⟩
    · rw [h]; exact .junk
    · rw [h]; exact (h6 d).ren τ (fun id hi => hid id (hids id hi))
  · intro id hi
    show (if id < s2.rows.length then ρ (σ id) else none) = none
    rw [if_neg (by omega)]

/-- A list of temporaries; all others may hold anything. -/
def tmps : List (Nat × AV) → Nat → AV
  | [], _ => .junk
  | (d, v) :: l, i => if i = d then v else tmps l i

mutual
def idsOk (n : Nat) : AV → Bool
  | .ptr id _ => decide (id < n)
  | .sl id _ _ _ => decide (id < n)
  | .val _ | .ext .. | .eptr _ | .nils | .junk => true
  | .agg cs => idsOkL n cs
  | .tup cs => idsOkL n cs
  | .fn _ cs => idsOkL n cs
def idsOkL (n : Nat) : List AV → Bool
  | [] => true
  | c :: cs => idsOk n c && idsOkL n cs
end

mutual
theorem ren_id : ∀ v : AV, ren (fun i => i) v = v
  | .ptr id off => by simp only [ren]
  | .sl id off len z => by simp only [ren]
  | .val v => by simp only [ren]
  | .nils => by simp only [ren]
  | .ext cs n => by simp only [ren]
  | .eptr cs => by simp only [ren]
  | .junk => by simp only [ren]
  | .agg cs => by simp only [ren, renL_id cs]
  | .tup cs => by simp only [ren, renL_id cs]
  | .fn f cs => by simp only [ren, renL_id cs]
theorem renL_id : ∀ cs : List AV, renL (fun i => i) cs = cs
  | [] => by simp only [renL]
  | c :: cs => by simp only [renL, ren_id c, renL_id cs]
end

mutual
theorem idsOk_spec {n : Nat} : ∀ v : AV, idsOk n v = true → ∀ id ∈ idsV v, id < n
  | .ptr id off, h => by simp only [idsOk, decide_eq_true_eq] at h; simpa [idsV] using h
  | .sl id off len z, h => by simp only [idsOk, decide_eq_true_eq] at h; simpa [idsV] using h
  | .val v, h => by simp [idsV]
  | .nils, h => by simp [idsV]
  | .ext cs n, h => by simp [idsV]
  | .eptr cs, h => by simp [idsV]
  | .junk, h => by simp [idsV]
  | .agg cs, h => by simp only [idsOk] at h; simpa [idsV] using idsOkL_spec cs h
  | .tup cs, h => by simp only [idsOk] at h; simpa [idsV] using idsOkL_spec cs h
  | .fn f cs, h => by simp only [idsOk] at h; simpa [idsV] using idsOkL_spec cs h
theorem idsOkL_spec {n : Nat} : ∀ cs : List AV, idsOkL n cs = true → ∀ id ∈ idsL cs, id < n
  | [], h => by simp [idsL]
  | c :: cs, h => by
    simp only [idsOkL, Bool.and_eq_true] at h
    intro id hid
    simp only [idsL, List.mem_append] at hid
    rcases hid with hid | hid
    · exact idsOk_spec c h.1 id hid
    · exact idsOkL_spec cs h.2 id hid
end

theorem tmps_spec {Q : Nat → AV → Prop} : ∀ (l : List (Nat × AV)), (∀ p ∈ l, Q p.1 p.2) → (∀ d, tmps l d = .junk ∨ Q d (tmps l d))
  | [], h, d => .inl rfl
  | (e, v) :: l, h, d => by
    simp only [tmps]
    by_cases hd : d = e
    · rw [if_pos hd, hd]; exact .inr (h (e, v) (by simp))
    · rw [if_neg hd]; exact tmps_spec l (fun p hp => h p (by simp [hp])) d

/-- The simplest way: temporaries named, rows as they are. -/
theorem cln_same {k : Nat} {t : Nat → AV} {rows : List Row} (l : List (Nat × AV)) (hk : k ≤ rows.length)
    (hok : rows.all (fun r => idsOkL rows.length r.cells) = true)
    (hl : ∀ p ∈ l, t p.1 = p.2 ∧ idsOk rows.length p.2 = true) : Cln k ⟨t, rows⟩ ⟨tmps l, rows⟩ := by
  refine cln (fun i => i) (fun i => i) hk (fun _ _ => rfl) (fun i j _ _ h => h) (fun i r2 h => ⟨r2, h, ?_, fun id hid => ⟨?_, rfl⟩⟩) ?_
  · cases r2; simp only [renR, renL_id]
  · rw [List.all_eq_true] at hok
    exact idsOkL_spec _ (hok r2 (List.mem_of_getElem? h)) id hid
  · have := tmps_spec (Q := fun d v => v = t d ∧ ∀ id ∈ idsV v, id < rows.length) l (fun p hp => ⟨(hl p hp).1.symm, idsOk_spec _ (hl p hp).2⟩)
    intro d
    rcases this d with h | ⟨h, h'⟩
    · exact .inl h
    · refine .inr ⟨?_, fun id hid => ⟨h' id ?_, rfl⟩⟩
      · show tmps l d = _
        rw [ren_id]; exact h
      · show id ∈ idsV (tmps l d)
        rw [h]; exact hid

/-- Temporaries hold what is said. -/
def holds (t : Nat → AV) (n : Nat) : List (Nat × AV) → Prop
  | [] => True
  | p :: l => (t p.1 = p.2 ∧ idsOk n p.2 = true) ∧ holds t n l
theorem holds_all {t : Nat → AV} {n : Nat} : ∀ {l : List (Nat × AV)}, holds t n l → ∀ p ∈ l, t p.1 = p.2 ∧ idsOk n p.2 = true
  | [], _, p, hp => by simp at hp
  | q :: l, h, p, hp => by
    rcases List.mem_cons.1 hp with rfl | hp
    · exact h.1
    · exact holds_all h.2 p hp
theorem cln_t {k : Nat} {t : Nat → AV} {rows : List Row} {l : List (Nat × AV)} (hl : holds t rows.length l) (hk : k ≤ rows.length) (hok : rows.all (fun r => idsOkL rows.length r.cells) = true) : Cln k ⟨t, rows⟩ ⟨tmps l, rows⟩ :=
  cln_same l hk hok (holds_all hl)

section
variable {E : Env}

theorem LoopOk.clean {k nt : Nat} {c : Code} {s s2 s' : St} {x : X} (hc : Cln k s s2) (h : LoopOk E k nt c s2 x s') : LoopOk E k nt c s x s' := by
  obtain ⟨n, hn⟩ := h
  exact ⟨n, fun S O ρ0 w0 hk0 hfr hgl a w hin => hn S O ρ0 w0 hk0 hfr hgl a w (hc S O ρ0 w0 nt hk0 a w hin)⟩

/-- A loop by induction: states 'st a' at its head, of which each round makes one that is less. -/
theorem loop_ind (hp : PrimOk E) (hpr : ∀ f, E.prim f = none) (hm : E.P.follows .mixedOrders = true) {k0 nt : Nat} {c : Code} {k : XK} {α : Type} (st : α → St) (μ : α → Nat) (good : α → Prop)
    (step : ∀ a, good a → execK E k0 nt c (st a).t (st a).rows fun x t' rows' => match x with
      | .normal => ∃ b, (good b ∧ μ b < μ a) ∧ Cln k0 ⟨t', rows'⟩ (st b)
      | x => k x t' rows') : ∀ (a : α), good a → ∀ {t : Nat → AV} {rows : List Row}, Cln k0 ⟨t, rows⟩ (st a) → ∃ x t' rows', LoopOk E k0 nt c ⟨t, rows⟩ x ⟨t', rows'⟩ ∧ k x t' rows' := by
  have main : ∀ (n : Nat) (a : α), μ a < n → good a → ∃ x t' rows', LoopOk E k0 nt c (st a) x ⟨t', rows'⟩ ∧ k x t' rows' := by
    intro n
    induction n with
    | zero => intro a h; omega
    | succ n ih =>
      intro a hn ha
      obtain ⟨y, t', rows', h1, h2⟩ := execK_spec hp hpr hm _ _ _ _ (step a ha)
      cases y with
      | normal =>
        obtain ⟨b, ⟨hb, hlt⟩, hcl⟩ := h2
        obtain ⟨x2, t2, rows2, ⟨m, hn⟩, hk⟩ := ih b (by omega) hb
        refine ⟨x2, t2, rows2, ⟨m + 1, fun S O ρ0 w0 hk0 hfr hgl a w hin => ?_⟩, hk⟩
        rw [rounds_succ]
        refine wp_mono (h1 S O ρ0 w0 hk0 hfr hgl a w hin) ?_
        rintro e a' w' ⟨rfl, hin'⟩
        exact hn S O ρ0 w0 hk0 hfr hgl a' w' (hcl S O ρ0 w0 nt hk0 a' w' hin')
      | exit i =>
        refine ⟨.exit i, t', rows', ⟨1, fun S O ρ0 w0 hk0 hfr hgl a w hin => ?_⟩, h2⟩
        rw [rounds_succ]
        refine wp_mono (h1 S O ρ0 w0 hk0 hfr hgl a w hin) ?_
        rintro e a' w' ⟨rfl, hin'⟩
        exact ⟨rfl, hin'⟩
      | ret =>
        refine ⟨.ret, t', rows', ⟨1, fun S O ρ0 w0 hk0 hfr hgl a w hin => ?_⟩, h2⟩
        rw [rounds_succ]
        refine wp_mono (h1 S O ρ0 w0 hk0 hfr hgl a w hin) ?_
        rintro e a' w' ⟨rfl, hin'⟩
        exact ⟨rfl, hin'⟩
  intro a ha t rows hc
  obtain ⟨x, t', rows', h1, h2⟩ := main (μ a + 1) a (by omega) ha
  exact ⟨x, t', rows', h1.clean hc, h2⟩


/-! Calls, ends, by what they ask -/

mutual
theorem ren_none (σ : Nat → Nat) : ∀ v : AV, idsV v = [] → ren σ v = v
  | .ptr id off, h => by simp [idsV] at h
  | .sl id off len z, h => by simp [idsV] at h
  | .val v, h => by simp only [ren]
  | .nils, h => by simp only [ren]
  | .ext cs n, h => by simp only [ren]
  | .eptr cs, h => by simp only [ren]
  | .junk, h => by simp only [ren]
  | .agg cs, h => by simp only [ren, renL_none σ cs (by simpa [idsV] using h)]
  | .tup cs, h => by simp only [ren, renL_none σ cs (by simpa [idsV] using h)]
  | .fn f cs, h => by simp only [ren, renL_none σ cs (by simpa [idsV] using h)]
theorem renL_none (σ : Nat → Nat) : ∀ cs : List AV, idsL cs = [] → renL σ cs = cs
  | [], h => by simp only [renL]
  | c :: cs, h => by
    simp only [idsL, List.append_eq_nil_iff] at h
    simp only [renL, ren_none σ c h.1, renL_none σ cs h.2]
end

def entersOk (E : Env) (f : FuncId) : Bool := match E.P.funcs[f]? with
  | some fn => !(fn.name == "runtime.NumGoroutine" || fn.body.isNone)
  | none => false

/-- A call of which nothing is handed over by reference. -/
theorem callK0 {f : FuncId} {args args' : List AV} {rows : Rows} {next : Nat} {k : EK} {us : List Nat} {r : AV} {out : List Row} (hf : entersOk E f = true) (h0 : rootsL (E.byRef f) args = [])
    (hus : reach rows 100000 [] (idsL args) = some us) (hargs : mapO (passV (E.byRef f) rows [] 30) args = some args') (hok : FnOk E f args' [] r out)
    (hc : ((idsL args).isEmpty || noExt r && out.all fun q => noExtL q.cells) = true) (hk : k (ren (next + ·) r) [] (out.map (renR (next + ·))) us) : callK E f args rows next k := by
  unfold callK
  unfold entersOk at hf
  split at hf
  case h_2 => cases hf
  rename_i fn hfn
  simp only [hfn]
  rw [if_neg (by intro h; rw [h] at hf; cases hf), h0]
  have hr0 : reach rows 100000 [] [] = some [] := by simp [reach]
  simp only [hr0, hus]
  rw [hargs]
  simp only [rowsAt]
  refine ⟨r, out, hok, ⟨?_, Nat.zero_le _⟩, ?_⟩
  · cases hi : idsL args with
    | nil => simp
    | cons a l => rw [hi] at hc; simpa using hc
  · rw [see_eq]
    have e : (fun j => if j < ([] : List Nat).length then ([] : List Nat).getD j 0 else next + (j - ([] : List Nat).length)) = (next + ·) := by
      funext j; simp
    rw [e]
    exact hk

/-- A call, each question by itself. -/
theorem callK_of {f : FuncId} {args args' : List AV} {rows : Rows} {next : Nat} {k : EK} {ids us : List Nat} {rs : List Row} {r : AV} {out : List Row} (hf : entersOk E f = true) (hids : reach rows 100000 [] (rootsL (E.byRef f) args) = some ids)
    (hus : reach rows 100000 [] (idsL args) = some us) (hargs : mapO (passV (E.byRef f) rows ids 30) args = some args') (hrs : rowsAt rows ids = some rs) (hok : FnOk E f args' (rs.map (renR (index ids))) r out)
    (hc : ((idsL args).all ids.contains || noExt r && out.all fun q => noExtL q.cells) = true) (hl : ids.length ≤ out.length)
    (hk : k (ren (fun j => if j < ids.length then ids.getD j 0 else next + (j - ids.length)) r) (ids.zip ((out.take ids.length).map (renR fun j => if j < ids.length then ids.getD j 0 else next + (j - ids.length))))
      ((out.drop ids.length).map (renR fun j => if j < ids.length then ids.getD j 0 else next + (j - ids.length))) us) : callK E f args rows next k := by
  unfold callK
  unfold entersOk at hf
  split at hf
  case h_2 => cases hf
  rename_i fn hfn
  simp only [hfn]
  rw [if_neg (by intro h; rw [h] at hf; cases hf)]
  simp only [hids, hus]
  rw [hargs, hrs]
  refine ⟨r, out, hok, ⟨hc, hl⟩, ?_⟩
  rw [see_eq]
  exact hk

theorem reach1 {rows : Rows} {id : Nat} {r : Row} (h : rows id = some r) (hr : idsL r.cells = []) : reach rows 100000 [] [id] = some [id] := by
  have e : idsR rows id = [] := by simp only [idsR, h, hr]; split <;> rfl
  show (if ([] : List Nat).contains id then reach rows 99999 [] [] else reach rows 99999 ([] ++ [id]) (idsR rows id ++ [])) = _
  rw [e]
  simp [reach]

theorem passV_sl {rows : Rows} {id off len z n : Nat} {r : Row} {cs : List AV} {b : Bool} (h : rows id = some r) (hl : r.live = true) (hg : getCells r.cells off (len * z) = some cs) (hp : plainL cs = true) :
    passV b rows [] (n + 1) (.sl id off len z) = some (.ext cs len) := by
  simp only [passV, h, hl, hg, hp]
  simp

theorem leave0 {r : AV} {rows : Rows} (h : idsV r = []) : leave 0 r rows = some (r, []) := by
  unfold leave
  simp only [List.range_zero, List.flatMap_nil, List.nil_append, h]
  have hr0 : reach rows 100000 [] [] = some [] := by simp [reach]
  simp only [hr0, rowsAt, ren_none _ r h, List.map_nil]

/-- A result that leads to one row. -/
theorem leave1 {r r' : AV} {rows : Rows} {id : Nat} {q : Row} (h : idsV r = [id]) (hq : rows id = some q) (hn : idsL q.cells = []) (hr : ren (index [id]) r = r') : leave 0 r rows = some (r', [q]) := by
  unfold leave
  simp only [List.range_zero, List.flatMap_nil, List.nil_append, h]
  simp only [reach1 hq hn, rowsAt, hq, hr, List.map_cons, List.map_nil]
  cases q
  simp only [renR] at *
  rw [renL_none _ _ hn]

theorem bindP_of {α : Type} {x : Option α} {a : α} {k : α → Prop} (h : x = some a) (hk : k a) : x.bindP k := by rw [h]; exact hk

theorem idsL_none {α : Type} (f : α → AV) (h : ∀ a, idsV (f a) = []) : ∀ l : List α, idsL (l.map f) = []
  | [] => by simp [idsL]
  | a :: l => by simp [idsL, h a, idsL_none f h l]
theorem idsL_append : ∀ a b : List AV, idsL (a ++ b) = idsL a ++ idsL b
  | [], b => by simp [idsL]
  | x :: a, b => by simp [idsL, idsL_append a b]
theorem plainL_map {α : Type} (f : α → AV) (h : ∀ a, plainV (f a) = true) : ∀ l : List α, plainL (l.map f) = true
  | [] => by simp [plainL]
  | a :: l => by simp [plainL, h a, plainL_map f h l]
theorem noExtL_map {α : Type} (f : α → AV) (h : ∀ a, noExt (f a) = true) : ∀ l : List α, noExtL (l.map f) = true
  | [] => by simp [noExtL]
  | a :: l => by simp [noExtL, h a, noExtL_map f h l]
theorem getCells_all (cs : List AV) (n : Nat) (h : n = cs.length) : getCells cs 0 n = some cs := by
  subst h; simp [getCells]

end
end Go.AI
