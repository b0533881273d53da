/-
  The machine of values, on: regions, code, functions: the machine is right. Conditions: those that each lemma lists.
-/
import Derived.Test.YtjpfohbfklghdaaGreatDoorN2
import Derived.LoopN
set_option linter.all false
/-
  What an operation looks at is all that counts: temporaries (its operands), rows ('use'). And what it turns.
-/
set_option linter.unusedVariables false
set_option linter.unusedSimpArgs false
namespace Go.AI

section
variable {E : Env} {rec : Task → Option Res} {t t' : Nat → AV} {m m' : Rows} {next : Nat} {e : Eff}

def SameT (t t' : Nat → AV) (xs : Array Operand) : Prop := ∀ d, Operand.tmp d ∈ xs.toList → t d = t' d

theorem ev_same {x : Operand} {xs : Array Operand} (h : SameT t t' xs) (hx : x ∈ xs.toList) : ev E t x = ev E t' x := by
  cases x <;> simp [ev]
  exact h _ hx

theorem evs_same {xs : Array Operand} (h : SameT t t' xs) : ∀ l : List Operand, (∀ x ∈ l, x ∈ xs.toList) → evs E t l = evs E t' l
  | [], _ => rfl
  | x :: l, hl => by simp only [evs]; rw [ev_same h (hl x (by simp)), evs_same h l fun y hy => hl y (by simp [hy])]

theorem evParts_same {xs : Array Operand} (h : SameT t t' xs) : ∀ l : List (Nat × Operand), (∀ p ∈ l, p.2 ∈ xs.toList) → evParts E t l = evParts E t' l
  | [], _ => rfl
  | (i, x) :: l, hl => by simp only [evParts]; rw [ev_same h (hl (i, x) (by simp)), evParts_same h l fun y hy => hl y (by simp [hy])]

theorem evO_same {xs : Array Operand} (h : SameT t t' xs) (x : Option Operand) (hx : ∀ y, x = some y → y ∈ xs.toList) : evO E t x = evO E t' x := by
  cases x with
  | none => rfl
  | some y => simp only [evO]; rw [ev_same h (hx y rfl)]

theorem stepOp_sameT (o : Op) (h : SameT t t' o.operands) : stepOp E rec o t m next = stepOp E rec o t' m next := by
  cases o
  case call c =>
    have h1 : evs E t c.args.toList = evs E t' c.args.toList := evs_same h _ fun x hx => by simp [Op.operands, Call.operands] at hx ⊢; exact .inr hx
    simp only [stepOp, h1]
    cases hc : c.callee with
    | value f =>
      have : ev E t f = ev E t' f := ev_same h (by simp [Op.operands, Call.operands, hc])
      simp only [this]
    | _ => rfl
  case build ty ps =>
    have : evParts E t ps.toList = evParts E t' ps.toList := evParts_same h _ fun p hp => by simp [Op.operands]; exact ⟨p.1, by simpa using hp⟩
    simp only [stepOp, this]
  case buildSlice ty n ps =>
    have : evParts E t ps.toList = evParts E t' ps.toList := evParts_same h _ fun p hp => by simp [Op.operands]; exact ⟨p.1, by simpa using hp⟩
    simp only [stepOp, this]
  case makeFunc f first caps =>
    have : evs E t caps.toList = evs E t' caps.toList := evs_same h _ fun x hx => by simp [Op.operands] at hx ⊢; exact .inr hx
    cases f <;> simp only [stepOp, this]
  case slice ty x lo hi mx =>
    have h1 : ev E t x = ev E t' x := ev_same h (by simp [Op.operands])
    have h2 : evO E t lo = evO E t' lo := evO_same h _ fun y hy => by simp [Op.operands, hy]
    have h3 : evO E t hi = evO E t' hi := evO_same h _ fun y hy => by simp [Op.operands, hy]
    simp only [stepOp, h1, h2, h3]
  case pick c x y =>
    simp only [stepOp]
    rw [ev_same (x := c) h (by simp [Op.operands]), ev_same (x := x) h (by simp [Op.operands]), ev_same (x := y) h (by simp [Op.operands])]
  all_goals first
    | rfl
    | (rename_i x; simp only [stepOp]; rw [ev_same (x := x) h (by simp [Op.operands])]; done)
    | (rename_i x _; simp only [stepOp]; rw [ev_same (x := x) h (by simp [Op.operands])]; done)
    | (rename_i x y; simp only [stepOp]; rw [ev_same (x := x) h (by simp [Op.operands]), ev_same (x := y) h (by simp [Op.operands])]; done)
    | (rename_i x y _; simp only [stepOp]; rw [ev_same (x := x) h (by simp [Op.operands]), ev_same (x := y) h (by simp [Op.operands])]; done)

-- rows
def SameR (m m' : Rows) (us : List Nat) : Prop := ∀ id ∈ us, m id = m' id

theorem contents_same {z : Nat} {x : AV} {cs : List AV} {n : Nat} {us : List Nat} (h : contents m z x = some (cs, n, us)) (hs : SameR m m' us) : contents m' z x = some (cs, n, us) := by
  cases x
  case val v => cases v <;> exact h
  all_goals first | exact h | skip
  case sl id off k z' =>
    simp only [contents] at h ⊢
    have : m id = m' id := by
      refine hs id ?_
      split at h
      · split at h
        · obtain ⟨q, _, hq⟩ := Option.map_eq_some_iff.1 h
          cases hq; simp
        · cases h
      · cases h
    rw [← this]; exact h

theorem idsR_same {i : Nat} (h : m i = m' i) : idsR m i = idsR m' i := by simp only [idsR, h]

theorem reach_same : ∀ (n : Nat) (acc todo ids : List Nat), reach m n acc todo = some ids → SameR m m' ids → reach m' n acc todo = some ids := by
  intro n
  have hsub : ∀ (n : Nat) (acc todo ids : List Nat), reach m n acc todo = some ids → (∀ i ∈ acc, i ∈ ids) ∧ ∀ i ∈ todo, i ∈ ids := by
    intro n
    induction n with
    | zero =>
      intro acc todo ids h
      cases todo with
      | nil => simp only [reach] at h; injection h with h; subst h; exact ⟨fun _ h => h, fun i hi => by simp at hi⟩
      | cons i is => simp [reach] at h
    | succ n ih =>
      intro acc todo ids h
      cases todo with
      | nil => simp only [reach] at h; injection h with h; subst h; exact ⟨fun _ h => h, fun i hi => by simp at hi⟩
      | cons i is =>
        simp only [reach] at h
        split at h
        · rename_i hc
          obtain ⟨k1, k2⟩ := ih _ _ _ h
          refine ⟨k1, fun j hj => ?_⟩
          rcases List.mem_cons.1 hj with rfl | hj
          · exact k1 _ (by simpa using hc)
          · exact k2 _ hj
        · obtain ⟨k1, k2⟩ := ih _ _ _ h
          refine ⟨fun j hj => k1 _ (by simp [hj]), fun j hj => ?_⟩
          rcases List.mem_cons.1 hj with rfl | hj
          · exact k1 _ (by simp)
          · exact k2 _ (by simp [hj])
  induction n with
  | zero =>
    intro acc todo ids h hs
    cases todo with
    | nil => simpa only [reach] using h
    | cons i is => simp [reach] at h
  | succ n ih =>
    intro acc todo ids h hs
    cases todo with
    | nil => simpa only [reach] using h
    | cons i is =>
      have hi : i ∈ ids := (hsub _ _ _ _ h).2 i (by simp)
      simp only [reach] at h ⊢
      split at h
      · rename_i hc; rw [if_pos hc]; exact ih _ _ _ h hs
      · rename_i hc; rw [if_neg hc, ← idsR_same (hs i hi)]; exact ih _ _ _ h hs

theorem rowsAt_same : ∀ (ids : List Nat), (∀ i ∈ ids, m i = m' i) → rowsAt m ids = rowsAt m' ids
  | [], _ => rfl
  | i :: is, h => by simp only [rowsAt]; rw [h i (by simp), rowsAt_same is fun j hj => h j (by simp [hj])]

theorem mapO_same {f g : AV → Option AV} : ∀ (cs : List AV), (∀ c ∈ cs, f c = g c) → mapO f cs = mapO g cs
  | [], _ => rfl
  | c :: cs, h => by simp only [mapO]; rw [h c (by simp), mapO_same cs fun d hd => h d (by simp [hd])]

/-- 'us': closed, and all alike. -/
theorem passV_same {b : Bool} {ids us : List Nat} (hs : SameR m m' us) (hc : ∀ i ∈ us, ∀ k ∈ idsR m i, k ∈ us) : ∀ (n : Nat) (v : AV), (∀ i ∈ idsV v, i ∈ us) → passV b m ids n v = passV b m' ids n v
  | 0, _, _ => rfl
  | n + 1, v, hv => by
    cases v <;> simp only [passV]
    case sl id off len z =>
      have hid : id ∈ us := hv id (by simp [idsV])
      have he := hs id hid
      rw [← he]
      cases hm : m id with
      | none => rfl
      | some r =>
        simp only
        cases hl : r.live with
        | false => rfl
        | true =>
          simp only [if_true]
          cases hg : getCells r.cells off (len * z) with
          | none => rfl
          | some cs =>
            simp only
            have : mapO (passV b m ids n) cs = mapO (passV b m' ids n) cs := mapO_same cs fun c hc' => passV_same hs hc n c fun i hi => by
              refine hc id hid i ?_
              simp only [idsR, hm, hl, if_true]
              unfold getCells at hg
              split at hg
              · injection hg with hg
                subst hg
                exact mem_idsL.2 ⟨c, List.mem_of_mem_drop (List.mem_of_mem_take hc'), hi⟩
              · cases hg
            rw [this]
    case agg cs => rw [mapO_same cs fun c hc' => passV_same hs hc n c fun i hi => hv i (by simp only [idsV]; exact mem_idsL.2 ⟨c, hc', hi⟩)]
    case tup cs => rw [mapO_same cs fun c hc' => passV_same hs hc n c fun i hi => hv i (by simp only [idsV]; exact mem_idsL.2 ⟨c, hc', hi⟩)]
    case fn f cs => rw [mapO_same cs fun c hc' => passV_same hs hc n c fun i hi => hv i (by simp only [idsV]; exact mem_idsL.2 ⟨c, hc', hi⟩)]

theorem rootsL_sub {b : Bool} : ∀ (cs : List AV), ∀ i ∈ rootsL b cs, i ∈ idsL cs := by
  have hV : ∀ (n : Nat) (v : AV), SizeOf.sizeOf v ≤ n → ∀ i ∈ rootsOf b v, i ∈ idsV v := by
    intro n
    induction n with
    | zero => intro v hv; cases v <;> simp at hv
    | succ n ih =>
      have hL : ∀ cs : List AV, SizeOf.sizeOf cs ≤ n → ∀ i ∈ rootsL b cs, i ∈ idsL cs := by
        intro cs
        induction cs with
        | nil => intro _ i hi; simpa [rootsL, idsL] using hi
        | cons c cs ihc =>
          intro hs i hi
          simp at hs
          simp only [rootsL, idsL, List.mem_append] at hi ⊢
          rcases hi with hi | hi
          · exact .inl (ih c (by omega) i hi)
          · exact .inr (ihc (by omega) i hi)
      intro v hv i hi
      cases v <;> simp only [rootsOf, idsV] at hi ⊢ <;> try exact hi
      case sl => cases b <;> simp at hi ⊢; exact hi
      case agg cs => simp at hv; exact hL cs (by omega) i hi
      case tup cs => simp at hv; exact hL cs (by omega) i hi
      case fn f cs => simp at hv; exact hL cs (by omega) i hi
  intro cs
  induction cs with
  | nil => intro i hi; simpa [rootsL, idsL] using hi
  | cons c cs ih =>
    intro i hi
    simp only [rootsL, idsL, List.mem_append] at hi ⊢
    exact hi.imp (hV _ c (Nat.le_refl _) i) (ih i)

/-- What a given function's contract is to be like. -/
structure PrimOk (E : Env) : Prop where
  enters : ∀ f p, E.prim f = some p → ∃ fn, E.P.funcs[f]? = some fn ∧ (fn.name == "runtime.NumGoroutine" || fn.body.isNone) = false
  same : ∀ f p, E.prim f = some p → ∀ args m m' next e, p args m next = some e → SameR m m' e.use → p args m' next = some e
  upd : ∀ f p, E.prim f = some p → ∀ args m next e, p args m next = some e → (e.upd.map (·.1)).Nodup ∧ ∀ q ∈ e.upd, ∃ r, m q.1 = some r
  sound : ∀ f p, E.prim f = some p → ∀ args m next e, p args m next = some e → ∀ (S O : Nat → Prop) (ρ : Map) (w : World) (vals : Array Value), Fr S O w → GlobOk E S w → RepL S ρ w args vals.toList → MR S O ρ m w →
    (∀ k, k < e.new.length → ρ (next + k) = none) → (∀ q ∈ e.upd, q.1 < next) → Calls E.P f vals w fun en w' => ∃ v, en = .returned v ∧ Outc S O ρ w m next e v w'

theorem appendA_same {el : TypeId} {s x : AV} (h : appendA E el m next s x = some e) (hs : SameR m m' e.use) : appendA E el m' next s x = some e := by
  unfold appendA at h ⊢
  split at h
  case h_2 => cases h
  rename_i z by_ zs h1 h2 h3
  split at h
  case isTrue => cases h
  rename_i hz
  rw [if_neg hz]
  split at h
  case h_2 => cases h
  rename_i cs n us hc
  split at h
  · have hu : e.use = us := by
      split at h
      · split at h <;> (injection h with h; subst h; rfl)
      · cases h
    rw [contents_same hc (hu ▸ hs)]
    exact h
  · rename_i id off len z'
    split at h
    case h_2 => cases h
    rename_i r hr
    split at h
    case isFalse => cases h
    rename_i hcond
    have hu : e.use = id :: us := by
      split at h
      · injection h with h; subst h; rfl
      · split at h
        · injection h with h; subst h; rfl
        · split at h
          · injection h with h; subst h; rfl
          · cases h
    rw [contents_same hc fun i hi => hs i (by rw [hu]; simp [hi])]
    simp only
    rw [← hs id (by rw [hu]; simp), hr]
    simp only
    rw [if_pos hcond]
    exact h
  · cases h

theorem appendZ_same {el : TypeId} {s : AV} {n : Int} (h : appendZ E el m next s n = some e) (hs : SameR m m' e.use) : appendZ E el m' next s n = some e := by
  unfold appendZ at h ⊢
  split at h
  case h_2 => cases h
  rename_i z by_ zs h1 h2 h3
  split at h
  case isFalse => cases h
  rename_i hz
  rw [if_pos hz]
  split at h
  · exact h
  · rename_i id off z'
    split at h
    case h_2 => cases h
    rename_i r hr
    split at h
    case isFalse => cases h
    rename_i hl
    have hu : e.use = [id] := by injection h with h; subst h; rfl
    rw [← hs id (by rw [hu]; simp), hr]
    simp only
    rw [if_pos hl]
    exact h
  · cases h

theorem copyA_same {el : TypeId} {d s : AV} (h : copyA E el m d s = some e) (hs : SameR m m' e.use) : copyA E el m' d s = some e := by
  unfold copyA at h ⊢
  split at h
  case h_2 => cases h
  rename_i z h1
  split at h
  case h_2 => cases h
  rename_i cs n us hc
  split at h
  case h_2 => cases h
  rename_i id off len z'
  split at h
  case h_2 => cases h
  rename_i r hr
  split at h
  case isFalse => cases h
  rename_i hl
  have hu : e.use = id :: us := by injection h with h; subst h; rfl
  rw [contents_same hc fun i hi => hs i (by rw [hu]; simp [hi])]
  simp only
  rw [← hs id (by rw [hu]; simp), hr]
  simp only
  rw [if_pos hl]
  exact h

theorem builtinA_same {b : Builtin} {ats : Array TypeId} {args : List AV} (h : builtinA E b ats args m next = some e) (hs : SameR m m' e.use) : builtinA E b ats args m' next = some e := by
  unfold builtinA at h ⊢
  split at h
  · exact h
  · split at h
    case h_2 => cases h
    split at h
    · split at h
      · cases h
      · exact appendA_same h hs
    · split at h
      · exact appendA_same h hs
      · cases h
    · split at h
      · exact appendZ_same h hs
      · cases h
    · cases h
  · split at h
    case h_2 => cases h
    split at h
    case h_2 => cases h
    exact copyA_same h hs
  · split at h
    · exact h
    · rename_i id _ _ _ _
      split at h
      case h_2 => cases h
      rename_i r hr
      split at h
      case isFalse => cases h
      rename_i hl
      have hu : e.use = [id] := by injection h with h; subst h; rfl
      rw [← hs id (by rw [hu]; simp), hr]
      simp only
      rw [if_pos hl]
      exact h
    · cases h
  · exact h
  · exact h
  · cases h

theorem callA_same (hp : PrimOk E) {f : FuncId} {args : List AV} (h : callA E rec f args m next = some e) (hs : SameR m m' e.use) : callA E rec f args m' next = some e := by
  unfold callA at h ⊢
  split at h
  · rename_i p hpr
    exact hp.same f p hpr args m m' next e h hs
  · split at h
    case h_2 => cases h
    rename_i fn hfn
    split at h
    case isTrue => cases h
    rename_i hnm
    simp only [if_neg hnm]
    split at h
    case h_2 => cases h
    rename_i ids us hreach hus
    split at h
    case h_2 => cases h
    rename_i args' rs hpass hrows
    have hu : e.use = us := by
      split at h
      · split at h
        · injection h with h; subst h; rfl
        · cases h
      · cases h
    rw [hu] at hs
    obtain ⟨_, _, u3, u4, _⟩ := reach_spec m _ _ _ _ hus List.nodup_nil (fun i hi => by cases hi)
    -- what is handed over by reference lies among what is led to
    have hsub : ∀ i ∈ ids, i ∈ us := by
      have : ∀ (n : Nat) (acc todo ids : List Nat), reach m n acc todo = some ids → (∀ i ∈ acc, i ∈ us) → (∀ i ∈ todo, i ∈ us) → ∀ i ∈ ids, i ∈ us := by
        intro n
        induction n with
        | zero =>
          intro acc todo ids h ha ht
          cases todo with
          | nil => simp only [reach] at h; injection h with h; subst h; exact ha
          | cons i is => simp [reach] at h
        | succ n ih =>
          intro acc todo ids h ha ht
          cases todo with
          | nil => simp only [reach] at h; injection h with h; subst h; exact ha
          | cons i is =>
            simp only [reach] at h
            split at h
            · exact ih _ _ _ h ha fun j hj => ht j (by simp [hj])
            · refine ih _ _ _ h (fun j hj => ?_) fun j hj => ?_
              · rcases List.mem_append.1 hj with hj | hj
                · exact ha j hj
                · simp at hj; subst hj; exact ht j (by simp)
              · rcases List.mem_append.1 hj with hj | hj
                · exact u4 i (ht i (by simp)) j hj
                · exact ht j (by simp [hj])
      exact this _ _ _ _ hreach (fun i hi => by cases hi) fun i hi => u3 i (rootsL_sub _ i hi)
    rw [reach_same _ _ _ _ hreach fun i hi => hs i (hsub i hi), reach_same _ _ _ _ hus hs]
    simp only
    have h1 : mapO (passV (E.byRef f) m' ids 30) args = some args' := by
      rw [← hpass]
      exact (mapO_same args fun c hc => passV_same hs u4 30 c fun i hi => u3 i (mem_idsL.2 ⟨c, hc, hi⟩)).symm
    have h2 : rowsAt m' ids = some rs := by rw [← hrows]; exact (rowsAt_same ids fun i hi => hs i (hsub i hi)).symm
    rw [h1, h2]
    exact h

end
end Go.AI

/-
  One operation, all cases: same rows, same answer; what it turns; and that it is right.
-/
set_option linter.unusedVariables false
set_option linter.unusedSimpArgs false
namespace Go.AI

section
variable {E : Env} {rec : Task → Option Res} {t t' : Nat → AV} {m m' : Rows} {next : Nat} {e : Eff}

theorem stepOp_same (hp : PrimOk E) {o : Op} (h : stepOp E rec o t m next = some e) (hs : SameR m m' e.use) : stepOp E rec o t m' next = some e := by
  cases o
  case load ty x =>
    simp only [stepOp] at h ⊢
    split at h
    · rename_i id off hx
      split at h
      case h_2 => cases h
      rename_i r hr
      split at h
      case isFalse => cases h
      rename_i hl
      obtain ⟨v, _, hv⟩ := Option.map_eq_some_iff.1 h
      have hu : e.use = [id] := by rw [← hv]
      rw [← hs id (by rw [hu]; simp), hr]
      simp only
      rw [if_pos hl]
      exact h
    · exact h
    · cases h
  case store ty x y =>
    simp only [stepOp] at h ⊢
    split at h
    case h_2 => cases h
    rename_i id off v n h1 h2 h3
    split at h
    case h_2 => cases h
    rename_i r hr
    split at h
    case isFalse => cases h
    rename_i hc
    have hu : e.use = [id] := by injection h with h; subst h; rfl
    rw [← hs id (by rw [hu]; simp), hr]
    simp only
    rw [if_pos hc]
    exact h
  case convert s d x =>
    simp only [stepOp] at h ⊢
    split at h
    · exact h
    · exact h
    · exact h
    · split at h
      · rename_i cs n us hel hc
        split at h
        · cases h
        · rename_i hne
          have hu : e.use = us := by
            split at h
            · split at h
              · injection h with h; subst h; rfl
              · cases h
            · cases h
          rw [hel, contents_same hc (hu ▸ hs)]
          exact h
      · cases h
    · cases h
  case slice ty x lo hi mx =>
    simp only [stepOp] at h ⊢
    split at h
    · cases h
    split at h
    case h_2 => cases h
    split at h
    · exact h
    · exact h
    · exact h
    · rename_i id off n z' hu0 h1
      split at h
      case h_2 => cases h
      rename_i z r hz hr
      split at h
      case isFalse => cases h
      rename_i hc
      have hu : e.use = [id] := by
        split at h
        · split at h
          · injection h with h; subst h; rfl
          · cases h
        · cases h
      rw [← hs id (by rw [hu]; simp), hz, hr]
      simp only
      rw [if_pos hc]
      exact h
    · rename_i id off hu0 h1
      split at h
      case h_2 => cases h
      rename_i z r hz hr
      split at h
      case isFalse => cases h
      rename_i hc
      have hu : e.use = [id] := by
        split at h
        · split at h
          · injection h with h; subst h; rfl
          · cases h
        · cases h
      rw [← hs id (by rw [hu]; simp), hz, hr]
      simp only
      rw [if_pos hc]
      exact h
    · cases h
  case call c =>
    simp only [stepOp] at h ⊢
    split at h
    case h_2 => cases h
    split at h
    · exact builtinA_same h hs
    · split at h
      · exact callA_same hp h hs
      · cases h
    · cases h
  case makeFunc f first caps => cases f <;> exact h
  all_goals exact h

/-- Rows that are turned are there, each once. -/
def UpdOk (m : Rows) (e : Eff) : Prop := (e.upd.map (·.1)).Nodup ∧ ∀ q ∈ e.upd, ∃ r, m q.1 = some r

theorem UpdOk.nil {v : AV} {new : List Row} {us : List Nat} : UpdOk m ⟨v, [], new, us⟩ := ⟨List.nodup_nil, fun q hq => by cases hq⟩
theorem UpdOk.one {v : AV} {new : List Row} {us : List Nat} {id : Nat} {r r' : Row} (h : m id = some r) : UpdOk m ⟨v, [(id, r')], new, us⟩ :=
  ⟨by simp, fun q hq => by simp at hq; subst hq; exact ⟨r, h⟩⟩
theorem UpdOk.of (h : pureE (t 0) = some e) : UpdOk m e := by injection h with h; subst h; exact .nil

theorem appendA_upd {el : TypeId} {s x : AV} (h : appendA E el m next s x = some e) : UpdOk m e := by
  unfold appendA at h
  split at h
  case h_2 => cases h
  split at h
  case isTrue => cases h
  split at h
  case h_2 => cases h
  split at h
  · split at h
    · split at h <;> (injection h with h; subst h; exact .nil)
    · cases h
  · split at h
    case h_2 => cases h
    rename_i r hr
    split at h
    case isFalse => cases h
    split at h
    · injection h with h; subst h; exact .nil
    · split at h
      · injection h with h; subst h; exact .one hr
      · split at h
        · injection h with h; subst h; exact .one hr
        · cases h
  · cases h

theorem appendZ_upd {el : TypeId} {s : AV} {n : Int} (h : appendZ E el m next s n = some e) : UpdOk m e := by
  unfold appendZ at h
  split at h
  case h_2 => cases h
  split at h
  case isFalse => cases h
  split at h
  · injection h with h; subst h; exact .nil
  · split at h
    case h_2 => cases h
    split at h
    case isFalse => cases h
    injection h with h; subst h; exact .nil
  · cases h

theorem copyA_upd {el : TypeId} {d s : AV} (h : copyA E el m d s = some e) : UpdOk m e := by
  unfold copyA at h
  split at h
  case h_2 => cases h
  split at h
  case h_2 => cases h
  split at h
  case h_2 => cases h
  split at h
  case h_2 => cases h
  rename_i r hr
  split at h
  case isFalse => cases h
  injection h with h; subst h; exact .one hr

theorem pureE_upd {v : AV} (h : pureE v = some e) : UpdOk m e := by injection h with h; subst h; exact .nil

theorem builtinA_upd {b : Builtin} {ats : Array TypeId} {args : List AV} (h : builtinA E b ats args m next = some e) : UpdOk m e := by
  unfold builtinA at h
  split at h
  · split at h
    case h_2 => cases h
    split at h
    · exact pureE_upd h
    · split at h
      case h_2 => cases h
      split at h
      · cases h
      · exact pureE_upd h
    · cases h
  · split at h
    case h_2 => cases h
    split at h
    · split at h
      · cases h
      · exact appendA_upd h
    · split at h
      · exact appendA_upd h
      · cases h
    · split at h
      · exact appendZ_upd h
      · cases h
    · cases h
  · split at h
    case h_2 => cases h
    split at h
    case h_2 => cases h
    exact copyA_upd h
  · split at h
    · exact pureE_upd h
    · split at h
      case h_2 => cases h
      split at h
      case isFalse => cases h
      injection h with h; subst h; exact .nil
    · cases h
  · split at h
    · exact pureE_upd h
    · cases h
  · split at h
    · exact pureE_upd h
    · cases h
  · cases h

theorem callA_upd (hp : PrimOk E) {f : FuncId} {args : List AV} (h : callA E rec f args m next = some e) : UpdOk m e := by
  unfold callA at h
  split at h
  · rename_i p hpr
    exact hp.upd f p hpr args m next e h
  · split at h
    case h_2 => cases h
    split at h
    case isTrue => cases h
    split at h
    case h_2 => cases h
    rename_i ids us hreach hus
    split at h
    case h_2 => cases h
    rename_i args' rs hpass hrows
    split at h
    case h_2 => cases h
    rename_i r out hres
    split at h
    case isFalse => cases h
    rename_i hcond
    injection h with h
    subst h
    obtain ⟨hnd, _⟩ := reach_spec m _ _ _ _ hreach List.nodup_nil (fun i hi => by cases hi)
    obtain ⟨hrl, hrg⟩ := rowsAt_get hrows
    generalize hτ : (fun j => if j < ids.length then ids.getD j 0 else next + (j - ids.length)) = τ
    have hl2 : ((out.take ids.length).map (renR τ)).length = ids.length := by simp; omega
    refine ⟨?_, fun q hq => ?_⟩
    · show ((ids.zip ((out.take ids.length).map (renR τ))).map (·.1)).Nodup
      rw [show (ids.zip ((out.take ids.length).map (renR τ))).map (·.1) = ids from List.map_fst_zip (by omega)]
      exact hnd
    · have hq' : q.1 ∈ ids := (List.of_mem_zip (show (q.1, q.2) ∈ ids.zip _ from hq)).1
      obtain ⟨j, hj⟩ := List.mem_iff_getElem?.1 hq'
      have hlt := (List.getElem?_eq_some_iff.1 hj).1
      obtain ⟨id', g1, g2⟩ := hrg j _ (List.getElem?_eq_getElem (by omega))
      rw [hj] at g1
      cases g1
      exact ⟨_, g2⟩

theorem stepOp_upd (hp : PrimOk E) {o : Op} (h : stepOp E rec o t m next = some e) : UpdOk m e := by
  cases o
  case call c =>
    simp only [stepOp] at h
    split at h
    case h_2 => cases h
    split at h
    · exact builtinA_upd h
    · split at h
      · exact callA_upd hp h
      · cases h
    · cases h
  case store ty x y =>
    simp only [stepOp] at h
    split at h
    case h_2 => cases h
    split at h
    case h_2 => cases h
    rename_i r hr
    split at h
    case isFalse => cases h
    injection h with h; subst h; exact .one hr
  case load ty x =>
    simp only [stepOp] at h
    split at h
    · split at h
      case h_2 => cases h
      split at h
      case isFalse => cases h
      obtain ⟨v, _, hv⟩ := Option.map_eq_some_iff.1 h
      subst hv; exact .nil
    · split at h
      · exact pureE_upd h
      · cases h
    · cases h
  case makeFunc f first caps =>
    cases f <;> simp only [stepOp] at h
    all_goals first
      | (cases h; done)
      | (split at h
         · cases h
         · split at h
           · exact pureE_upd h
           · cases h)
  all_goals
    simp only [stepOp] at h
    repeat' (first
      | exact pureE_upd h
      | (injection h with h; subst h; exact .nil)
      | (cases h; done)
      | split at h)

theorem fillA_length {place : Nat → Option (Nat × Nat)} : ∀ (ps : List (Nat × AV)) (cells cs : List AV), fillA place cells ps = some cs → cs.length = cells.length := by
  have hset : ∀ (vs cells : List AV) (off : Nat), (setCells cells off vs).length = cells.length := by
    intro vs
    induction vs with
    | nil => intro cells off; rfl
    | cons v vs ih => intro cells off; simp only [setCells]; rw [ih]; simp
  intro ps
  induction ps with
  | nil => intro cells cs h; simp only [fillA] at h; injection h with h; subst h; rfl
  | cons p ps ih =>
    intro cells cs h
    obtain ⟨i, v⟩ := p
    simp only [fillA] at h
    split at h
    · cases h
    · split at h
      · cases h
      · rw [ih _ _ h, hset]

end
end Go.AI

/-
  One operation, all cases: it is right.
-/
set_option linter.unusedVariables false
set_option linter.unusedSimpArgs false
namespace Go.AI

section
variable {E : Env} {S O : Nat → Prop} {ρ : Map} {w : World} {m : Rows} {t : Nat → AV} {a : Act} {Q : Exit → Act → World → Prop} {next : Nat} {e : Eff} {o : Oper} {rec : Task → Option Res}

theorem evParts_two {l : List Operand} {vs : List AV} (h : evs E t l = some vs) : l.length = vs.length := by
  induction l generalizing vs with
  | nil => simp [evs] at h; subst h; rfl
  | cons x l ih =>
    simp only [evs] at h
    split at h
    · rename_i a as h1 h2
      injection h with h; subst h
      simp [ih h2]
    · cases h

theorem args_one {cl : Call} {x : AV} (h : evs E t cl.args.toList = some [x]) : ∃ y, cl.args = #[y] ∧ ev E t y = some x := by
  have hl := evParts_two h
  simp at hl
  match hc : cl.args with
  | ⟨[y]⟩ =>
    rw [hc] at h
    simp only [evs] at h
    refine ⟨y, rfl, ?_⟩
    split at h
    · rename_i a as h1 h2
      injection h with h
      injection h with h h'
      rw [h1, h]
    · cases h
  | ⟨[]⟩ => rw [hc] at hl; simp at hl
  | ⟨_ :: _ :: _⟩ => rw [hc] at hl; simp at hl

theorem args_two {cl : Call} {x y : AV} (h : evs E t cl.args.toList = some [x, y]) : ∃ p q, cl.args = #[p, q] ∧ ev E t p = some x ∧ ev E t q = some y := by
  have hl := evParts_two h
  simp at hl
  match hc : cl.args with
  | ⟨[p, q]⟩ =>
    rw [hc] at h
    simp only [evs] at h
    refine ⟨p, q, rfl, ?_⟩
    split at h
    · rename_i a as h1 h2
      injection h with h
      injection h with h h'
      subst h h'
      split at h2
      · rename_i b bs k1 k2
        injection h2 with h2
        injection h2 with h2 h3
        exact ⟨h1, by rw [k1, h2]⟩
      · cases h2
    · cases h
  | ⟨[]⟩ => rw [hc] at hl; simp at hl
  | ⟨[_]⟩ => rw [hc] at hl; simp at hl
  | ⟨_ :: _ :: _ :: _⟩ => rw [hc] at hl; simp at hl

theorem Rep.notString {x : AV} {v : Value} (h : Rep S ρ w x v) (hx : ∀ b, x ≠ .val (.string b)) (hj : x ≠ .junk) : ∀ b, v ≠ .string b := by
  rintro b rfl
  cases h
  · exact hx b rfl
  · exact hj rfl

theorem appendA_junk {el : TypeId} {s : AV} (h : appendA E el m next s .junk = some e) : False := by
  unfold appendA at h
  split at h
  · split at h
    · cases h
    · simp [contents] at h
  · cases h

theorem elemT_of {P : Program} {ty el : TypeId} (hel : elemT P ty = some el) : P.underlying ty = some (.slice el) := by
  unfold elemT at hel
  split at hel
  · rename_i hu; injection hel with hel; rw [hu, hel]
  · cases hel

theorem s_builtin (c : Cx E S O ρ w m t a) {cl : Call} (ho : o.op = .call cl) {b : Builtin} (hcl : cl.callee = .builtin b) {args : List AV} (h1 : evs E t cl.args.toList = some args)
    (h : builtinA E b cl.argTypes args m next = some e) (hid : ∀ p ∈ e.upd, p.1 < next) (hf : ∀ k, k < e.new.length → ρ (next + k) = none) : Goal E S O ρ w m next e o a Q := by
  unfold builtinA at h
  split at h
  · obtain ⟨x, hx, h2⟩ := args_one h1
    split at h
    case h_2 => cases h
    rename_i ty hty
    split at h
    · rename_i hu
      injection h with h; subst h
      exact s_lenS c ho hcl hx hty hu h2
    · rename_i hu
      split at h
      case h_2 => cases h
      rename_i n hn
      split at h
      · cases h
      · rename_i hv
        injection h with h; subst h
        exact s_len c ho hcl hx hty hu h2 hn (fun u hu' => hv u hu')
    · cases h
  · obtain ⟨x, y, hxy, h2, h3⟩ := args_two h1
    split at h
    case h_2 => cases h
    rename_i ty tx hty
    have hat : cl.argTypes = #[ty, tx] := by rw [← Array.toArray_toList (xs := cl.argTypes), hty]
    split at h
    · rename_i el e' hel htx
      split at h
      · cases h
      · rename_i hv
        exact s_append c ho hcl hat hxy (elemT_of hel) h2 h3 (.inl ⟨_, htx, (ev_rep c.tm c.gl h3).notString (fun b hb => hv _ hb) fun hj => by rw [hj] at h; exact appendA_junk h⟩) h hid hf
    · rename_i el hel htx
      split at h
      · rename_i b
        exact s_append c ho hcl hat hxy (elemT_of hel) h2 h3 (.inr ⟨htx, b, (ev_rep c.tm c.gl h3).val_inv.1⟩) h hid hf
      · cases h
    · rename_i el k hel htx
      split at h
      · exact s_appendZ c ho hcl hat hxy (elemT_of hel) htx h2 h3 h hf
      · cases h
    · cases h
  · obtain ⟨x, y, hxy, h2, h3⟩ := args_two h1
    split at h
    case h_2 => cases h
    rename_i ty hty
    split at h
    case h_2 => cases h
    rename_i el hel
    exact s_copy c ho hcl hty hxy (elemT_of hel) h2 h3 h hid hf
  · obtain ⟨x, hx, h2⟩ := args_one h1
    have hr := ev_rep c.tm c.gl h2
    split at h
    · rename_i el hu
      obtain ⟨ty, hty, hu⟩ := Option.bind_eq_some_iff.1 hu
      injection h with h; subst h
      exact s_cap c ho hcl hx hty hu _ ⟨none, 0, by generalize a.eval x = u at hr; cases hr; rfl⟩
    · rename_i el id off n z hu
      obtain ⟨ty, hty, hu⟩ := Option.bind_eq_some_iff.1 hu
      split at h
      case h_2 => cases h
      rename_i r hrow
      split at h
      case isFalse => cases h
      rename_i hl
      injection h with h; subst h
      refine s_cap c ho hcl hx hty hu _ ?_
      generalize a.eval x = u at hr
      cases hr with
      | @sl _ _ _ _ cap A y hx' hl' hc' h0' =>
        obtain ⟨k1, _⟩ := c.mr.ok id r y hrow hl.1 hx'
        cases y with
        | none =>
          rcases Nat.eq_zero_or_pos cap with h0 | h0
          · subst h0; exact ⟨_, _, rfl⟩
          · obtain ⟨L, hL, _⟩ := hc' h0; cases hL
        | some L => exact absurd hl.2 k1.1
    · cases h
  · obtain ⟨x, y, hxy, h2, h3⟩ := args_two h1
    split at h
    case isFalse => cases h
    rename_i hk
    injection h with h; subst h; subst hk
    exact (s_minmax c ho hxy h2 h3).1 hcl
  · obtain ⟨x, y, hxy, h2, h3⟩ := args_two h1
    split at h
    case isFalse => cases h
    rename_i hk
    injection h with h; subst h; subst hk
    exact (s_minmax c ho hxy h2 h3).2 hcl
  · cases h

theorem stepOp_sound (hp : PrimOk E) (c : Cx E S O ρ w m t a) (h : stepOp E rec o.op t m next = some e) (hrec : ∀ f args rows r out, rec (.fn f args rows) = some (.fn r out) → FnOk E f args rows r out)
    (hid : ∀ p ∈ e.upd, p.1 < next) (hf : ∀ k, k < e.new.length → ρ (next + k) = none) : Goal E S O ρ w m next e o a Q := by
  cases ho : o.op <;> rw [ho] at h
  case alloc el =>
    simp only [stepOp] at h
    split at h
    case h_2 => cases h
    rename_i cs hz
    injection h with h; subst h
    exact s_alloc c ho hz hf
  case box el x =>
    simp only [stepOp] at h
    split at h
    case h_2 => cases h
    rename_i v hv
    split at h
    case isFalse => cases h
    rename_i hone
    injection h with h; subst h
    exact s_box c ho hv hone hf
  case move x =>
    simp only [stepOp] at h
    split at h
    case h_2 => cases h
    rename_i v hv
    injection h with h; subst h
    exact s_move c (.inl ho) hv hf
  case assign x =>
    simp only [stepOp] at h
    split at h
    case h_2 => cases h
    rename_i v hv
    injection h with h; subst h
    exact s_move c (.inr ho) hv hf
  case pick q x y =>
    simp only [stepOp] at h
    split at h
    case h_2 => cases h
    rename_i b u v h1 h2 h3
    injection h with h; subst h
    exact s_pick c ho h1 h2 h3
  case build ty ps =>
    simp only [stepOp] at h
    split at h
    case h_2 => cases h
    rename_i z pv hz hpv
    split at h
    · rename_i fields hu
      split at h
      case h_2 => cases h
      rename_i pl hpl
      split at h
      case h_2 => cases h
      rename_i cs hcs
      injection h with h; subst h
      exact s_build c ho hz hpv (.inl ⟨fields, pl, hu, hpl, hcs⟩) hf
    · rename_i len el hu
      split at h
      case h_2 => cases h
      rename_i n hn
      split at h
      case h_2 => cases h
      rename_i cs hcs
      injection h with h; subst h
      exact s_build c ho hz hpv (.inr ⟨len, el, n, hu, hn, hcs⟩) hf
    · cases h
  case buildSlice ty len ps =>
    simp only [stepOp] at h
    split at h
    case h_2 => cases h
    rename_i el hel
    split at h
    case h_2 => cases h
    rename_i n z pv hn hz hpv
    split at h
    case isTrue => cases h
    rename_i hsm
    split at h
    case h_2 => cases h
    rename_i cs hcs
    split at h
    case isFalse => cases h
    injection h with h; subst h
    have hzn : z.length = n := by
      rcases Nat.decEq z.length n with g | g
      · exact absurd (.inr g) hsm
      · exact g
    exact s_buildSlice c ho (elemT_of hel) hn hz hpv (fun g => hsm (.inl g)) hzn hcs (by rw [fillA_length _ _ _ hcs]; simp [hzn]) hf
  case load ty x =>
    simp only [stepOp] at h
    split at h
    · rename_i id off hx
      split at h
      case h_2 => cases h
      rename_i r hr
      split at h
      case isFalse => cases h
      rename_i hl
      obtain ⟨v, hv, rfl⟩ := Option.map_eq_some_iff.1 h
      exact s_load c ho hx hr hl hv
    · rename_i cs hx
      split at h
      case h_2 => cases h
      rename_i v hv
      injection h with h; subst h
      exact s_loadE c ho hx hv
    · cases h
  case store ty x y =>
    simp only [stepOp] at h
    split at h
    case h_2 => cases h
    rename_i id off v n h1 h2 h3
    split at h
    case h_2 => cases h
    rename_i r hr
    split at h
    case isFalse => cases h
    rename_i hc
    injection h with h; subst h
    exact s_store c ho h1 h2 h3 hr hc.1 hc.2.1 hc.2.2.1 hc.2.2.2 (hid (id, { r with cells := setCells r.cells off (deNilL next (cellsOf v)).1 }) (by simp)) hf
  case nilCheck x =>
    simp only [stepOp] at h
    split at h
    · rename_i id off hx
      injection h with h; subst h
      exact s_nilCheck c ho hx (.inl ⟨_, _, rfl⟩)
    · rename_i cs hx
      injection h with h; subst h
      exact s_nilCheck c ho hx (.inr (.inl ⟨_, rfl⟩))
    · rename_i f cs hx
      injection h with h; subst h
      exact s_nilCheck c ho hx (.inr (.inr ⟨_, _, rfl⟩))
    · cases h
  case binOp op ty x y ty' =>
    simp only [stepOp] at h
    split at h
    case h_2 => cases h
    rename_i u v h1 h2
    split at h
    case h_2 => cases h
    rename_i r hr
    injection h with h; subst h
    exact s_bin c ho h1 h2 hr
  case unOp op ty x =>
    simp only [stepOp] at h
    split at h
    case h_2 => cases h
    rename_i u h1
    split at h
    case h_2 => cases h
    rename_i r hr
    injection h with h; subst h
    exact s_un c ho h1 hr
  case convert s d x =>
    simp only [stepOp] at h
    split at h
    · rename_i ds k k' n hs hd hx
      injection h with h; subst h
      exact s_convInt c ho hs hd hx
    · rename_i b hs hd hx
      injection h with h; subst h
      exact s_convStr c ho hs hd hx
    · rename_i el b hs hd hx
      split at h
      · rename_i hel
        injection h with h; subst h
        exact s_convBytes c ho hs hd hel hx (by have := hf 0 (by simp); simpa using this)
      · cases h
    · rename_i el v hs hd hx
      split at h
      case h_2 => cases h
      rename_i cs n us hel hc
      split at h
      case h_1 => cases h
      rename_i hv
      split at h
      case h_2 => cases h
      rename_i l hl
      split at h
      case isFalse => cases h
      rename_i hn
      injection h with h; subst h
      exact s_convBack c ho hs hd hel hx (fun u hu => hv u hu) hc hl hn
    · cases h
  case makeFunc f first caps =>
    cases f <;> simp only [stepOp] at h
    case func f =>
      split at h
      case isTrue => cases h
      rename_i h0
      split at h
      case h_2 => cases h
      rename_i cs hcs
      injection h with h; subst h
      exact s_makeFunc c ho (by simpa using h0) hcs
    all_goals cases h
  case makeSlice ty x y =>
    simp only [stepOp] at h
    split at h
    case h_2 => cases h
    rename_i el k p k' q hel h1 h2
    split at h
    case h_2 => cases h
    rename_i by_ n z hb hn hz
    split at h
    case isFalse => cases h
    rename_i hc
    injection h with h; subst h
    exact s_makeSlice c ho (elemT_of hel) h1 h2 hb hn hz ⟨hc.1, hc.2.1, hc.2.2.1, hc.2.2.2.1, hc.2.2.2.2.1, hc.2.2.2.2.2.1⟩ (by have := hf 0 (by simp); simpa using this)
  case slice ty x lo hi mx =>
    simp only [stepOp] at h
    split at h
    · cases h
    split at h
    case h_2 => cases h
    rename_i v vl vh h1 h2 h3
    split at h
    · rename_i s hu
      split at h
      case h_2 => cases h
      rename_i p h4
      split at h
      case h_2 => cases h
      rename_i l h5
      injection h with h; subst h
      exact s_sliceStr c ho hu h1 h2 h3 h4 h5
    · rename_i el hu
      split at h
      case h_2 => cases h
      rename_i z p l hz h4 h5
      injection h with h; subst h
      exact s_sliceNil c ho hu hz h1 h2 h3 h4 h5
    · rename_i el cs n hu
      split at h
      case h_2 => cases h
      rename_i z p hz h4
      split at h
      case h_2 => cases h
      rename_i l h5
      injection h with h; subst h
      exact s_sliceExt c ho hu hz h1 h2 h3 h4 h5
    · rename_i el id off n z' hu
      split at h
      case h_2 => cases h
      rename_i z r hz hr
      split at h
      case isFalse => cases h
      rename_i hc
      split at h
      case h_2 => cases h
      rename_i p h4
      split at h
      case h_2 => cases h
      rename_i l h5
      injection h with h; subst h
      exact s_sliceSl c ho hu hz h1 hr hc.1 hc.2.1 hc.2.2 h2 h3 h4 h5
    · rename_i n el id off hu
      split at h
      case h_2 => cases h
      rename_i z r hz hr
      split at h
      case isFalse => cases h
      rename_i hc
      split at h
      case h_2 => cases h
      rename_i p h4
      split at h
      case h_2 => cases h
      rename_i l h5
      injection h with h; subst h
      exact s_sliceArr c ho hu hz h1 hr hc.1 hc.2.1 hc.2.2 h2 h3 h4 h5
    · cases h
  case fieldAddr s x f =>
    simp only [stepOp] at h
    split at h
    case h_2 => cases h
    rename_i fields hs
    split at h
    case h_2 => cases h
    rename_i q hq
    split at h
    case h_2 => cases h
    rename_i n hn
    split at h
    case isTrue => cases h
    rename_i h0
    split at h
    · rename_i id off hx
      injection h with h; subst h
      exact (s_fieldAddr c ho hs hq hn h0).1 _ _ hx
    · rename_i cs hx
      injection h with h; subst h
      exact (s_fieldAddr c ho hs hq hn h0).2 _ hx
    · cases h
  case field s x f =>
    simp only [stepOp] at h
    split at h
    case h_2 => cases h
    rename_i fields cs hs hx
    split at h
    case h_2 => cases h
    rename_i q hq
    split at h
    case h_2 => cases h
    rename_i v hv
    injection h with h; subst h
    exact s_field c ho hs hq hx hv
  case indexAddr ty x y =>
    simp only [stepOp] at h
    split at h
    case h_2 => cases h
    rename_i k j v hy hx
    split at h
    · rename_i el id off n z' hu
      split at h
      case h_2 => cases h
      rename_i z hz
      split at h
      case isFalse => cases h
      rename_i hj
      injection h with h; subst h
      obtain ⟨g1, g2, rfl⟩ := hj
      exact (s_indexAddr c ho hy hz ⟨g1, g2⟩).1 _ _ hu hx
    · rename_i el cs n hu
      split at h
      case h_2 => cases h
      rename_i z hz
      split at h
      case isFalse => cases h
      rename_i hj
      injection h with h; subst h
      exact (s_indexAddr c ho hy hz hj).2.1 _ hu hx
    · rename_i n el id off hu
      split at h
      case h_2 => cases h
      rename_i z hz
      split at h
      case isFalse => cases h
      rename_i hj
      injection h with h; subst h
      exact (s_indexAddr c ho hy hz hj).2.2.1 _ _ hu hx
    · rename_i n el cs hu
      split at h
      case h_2 => cases h
      rename_i z hz
      split at h
      case isFalse => cases h
      rename_i hj
      injection h with h; subst h
      exact (s_indexAddr c ho hy hz hj).2.2.2 _ hu hx
    · cases h
  case index ty x y =>
    simp only [stepOp] at h
    split at h
    case h_2 => cases h
    rename_i k j v hy hx
    split at h
    · rename_i n el cs hu
      split at h
      case h_2 => cases h
      rename_i z hz
      split at h
      case isFalse => cases h
      rename_i hj
      split at h
      case h_2 => cases h
      rename_i v hv
      injection h with h; subst h
      exact s_index c ho hu hx hy hz hj hv
    · rename_i s hu
      split at h
      case isFalse => cases h
      rename_i hj
      split at h
      case h_2 => cases h
      rename_i b hb
      injection h with h; subst h
      exact s_indexS c ho hu hx hy hj hb
    · cases h
  case extract x i =>
    simp only [stepOp] at h
    split at h
    case h_2 => cases h
    rename_i vs hx
    split at h
    case h_2 => cases h
    rename_i v hv
    injection h with h; subst h
    exact s_extract c ho hx hv
  case call cl =>
    simp only [stepOp] at h
    split at h
    case h_2 => cases h
    rename_i as has
    split at h
    · rename_i b hb
      exact s_builtin c ho hb has h hid hf
    · rename_i fo hfo
      split at h
      case h_2 => cases h
      rename_i g caps hg
      cases hpr : E.prim g with
      | none => exact s_call c ho hfo has hg hpr h (fun args rows r out => hrec g args rows r out) hf
      | some p =>
        simp only [callA, hpr] at h
        obtain ⟨fn, hfn, hnm⟩ := hp.enters g p hpr
        obtain ⟨cvs, ef, hcaps⟩ := (ev_rep c.tm c.gl hg).fn_inv
        have hargs := (evs_rep c.tm c.gl has).append hcaps
        have hrun := run_call (w := w) (P := E.P) ho hfo ef hfn hnm
        have hvals : (cl.args.map a.eval ++ cvs).toList = cl.args.toList.map a.eval ++ cvs.toList := by simp
        unfold Goal Oper.wp
        rw [hrun]
        refine Calls.mono (hp.sound g p hpr _ _ _ _ h S O ρ w (cl.args.map a.eval ++ cvs) c.fr c.gl (by rw [hvals]; exact hargs) c.mr hf hid) ?_
        rintro e' w'' ⟨v, rfl, ho'⟩
        exact ⟨v, rfl, ho'⟩
    · cases h
  all_goals (simp only [stepOp] at h; cases h)

end
end Go.AI

/-
  A frame's standing between two operations; one operation moves it on.
-/
set_option linter.unusedVariables false
set_option linter.unusedSimpArgs false
namespace Go.AI

/-- How a frame stands: its temporaries, its rows, which numbers are free yet. -/
structure Inv (S O : Nat → Prop) (ρ0 : Map) (w0 : World) (nt : Nat) (t : Nat → AV) (m : Rows) (free : Nat → Prop) (a : Act) (w : World) : Prop where
  size : a.tmps.size = nt
  defers : a.defers = []
  kp : Kp O w0 w
  ex : ∃ ρ, ρ0.le ρ ∧ MR S O ρ m w ∧ TmpsOk S ρ w t a ∧ ∀ id, free id → ρ id = none

section
variable {E : Env} {S O : Nat → Prop} {ρ0 : Map} {w0 w : World} {nt : Nat} {m : Rows} {t : Nat → AV} {free : Nat → Prop} {a : Act} {Q : Exit → Act → World → Prop} {next : Nat} {e : Eff} {o : Oper} {rec : Task → Option Res}

theorem put_size (a : Act) (d : Option Tmp) (v : Value) : (a.put d v).tmps.size = a.tmps.size := by cases d <;> simp [Act.put]
theorem put_defers (a : Act) (d : Option Tmp) (v : Value) : (a.put d v).defers = a.defers := by cases d <;> rfl

theorem TmpsOk.put {ρ : Map} (h : TmpsOk S ρ w t a) {d : Option Tmp} (hd : dstOk a.tmps.size d = true) {x : AV} {v : Value} (hr : Rep S ρ w x v) : TmpsOk S ρ w (putA t d x) (a.put d v) := by
  cases d with
  | none => exact h
  | some d =>
    intro i
    simp only [dstOk, decide_eq_true_eq] at hd
    simp only [putA, upd, Act.put]
    by_cases hi : i = d
    · subst hi
      rw [if_pos rfl]
      simpa [Array.getD_eq_getD_getElem?, hd] using hr
    · rw [if_neg hi]
      have := h i
      simpa [Array.getD_eq_getD_getElem?, Array.getElem?_setIfInBounds, Ne.symm hi] using this

theorem TmpsOk.kp' {ρ ρ' : Map} {w w' : World} (h : TmpsOk S ρ w t a) (f : Fr S O w) (k : Kp O w w') (hρ : ρ.le ρ') : TmpsOk S ρ' w' t a := fun d => (h d).kp f k hρ

theorem Inv.skip (h : Inv S O ρ0 w0 nt t m free a w) {d : Option Tmp} (hd : dstOk nt d = true) : Inv S O ρ0 w0 nt (putA t d (.tup [])) m free (a.put d undef) w := by
  obtain ⟨h1, h2, h3, ρ, h4, h5, h6, h7⟩ := h
  refine ⟨by rw [put_size, h1], by rw [put_defers, h2], h3, ρ, h4, h5, ?_, h7⟩
  exact h6.put (by rw [h1]; exact hd) (.tup (by rfl) (fun j c v hj _ => by simp at hj))

theorem Inv.step (hfr : Fr S O w0) (hgl : GlobOk E S w0) (hp : PrimOk E) (h : Inv S O ρ0 w0 nt t m free a w) (hs : stepOp E rec o.op t m next = some e)
    (hrec : ∀ f args rows r out, rec (.fn f args rows) = some (.fn r out) → FnOk E f args rows r out) (hd : dstOk nt o.dst = true) (hid : ∀ p ∈ e.upd, p.1 < next) (hf : ∀ k, k < e.new.length → free (next + k))
    {K : Act → World → Prop} (hK : ∀ a' w', Inv S O ρ0 w0 nt (putA t o.dst e.val) (applyM m next e) (fun id => free id ∧ ¬(next ≤ id ∧ id < next + e.new.length)) a' w' → K a' w') : o.wp E.P a w K Q := by
  obtain ⟨h1, h2, h3, ρ, h4, h5, h6, h7⟩ := h
  have hfr' := hfr.kp h3
  have c : Cx E S O ρ w m t a := ⟨hfr', h5, h6, hgl.kp hfr h3⟩
  refine Oper.wp_mono ?_ (stepOp_sound hp c hs hrec hid (fun k hk => h7 _ (hf k hk)))
  rintro a' w' ⟨v, rfl, ρ', g1, g2, g3, g4, g5⟩
  refine hK _ _ ⟨by rw [put_size, h1], by rw [put_defers, h2], h3.trans g3, ρ', h4.trans g1, g5, ?_, fun id hid' => g2 id (h7 id hid'.1) hid'.2⟩
  exact (h6.kp' hfr' g3 g1).put (by rw [h1]; exact hd) g4

theorem wanted_eq {ops : Array Oper} {ρ : Map} (h : TmpsOk S ρ w t a) (hg : sureG ops o t = true) : Region.wanted o (yielded ops a.tmps) = wantedA ops o t := by
  unfold Region.wanted wantedA
  unfold sureG at hg
  cases hgu : o.guard with
  | none => rfl
  | some g =>
    obtain ⟨j, want⟩ := g
    rw [hgu] at hg
    simp only [yielded]
    cases hd : (ops[j]?).bind (·.dst) with
    | none => simp
    | some d =>
      simp only [hd] at hg
      simp only [Option.bind_some]
      have hr := h d
      have hj : t d ≠ .junk := fun e => by rw [e] at hg; cases hg
      cases hv : a.tmps[d]? with
      | none =>
        rw [Array.getD_eq_getD_getElem?, hv] at hr
        simp only [Option.getD_none, undef] at hr
        cases htd : t d with
        | val v => rw [htd] at hr; cases hr with | val hf => simp [flat] at hf
        | junk => exact absurd htd hj
        | _ => simp
      | some v =>
        rw [Array.getD_eq_getD_getElem?, hv] at hr
        simp only [Option.getD_some] at hr
        generalize t d = x at hr hj
        cases hr with
        | val hf => cases v <;> simp
        | junk => exact absurd rfl hj
        | _ => simp

end
end Go.AI

/-
  A region, in whatever order its operations come.
-/
set_option linter.unusedVariables false
set_option linter.unusedSimpArgs false
namespace Go.AI

/-- What stands at a place once those operations of X have run: the last that wrote there. -/
def ver {β : Type} (W : Nat → Nat → Option β) (X : Nat → Bool) (base : Nat → β) : Nat → Nat → β
  | 0, k => base k
  | n + 1, k => if X n then (W n k).getD (ver W X base n k) else ver W X base n k

section
variable {β : Type} {W : Nat → Nat → Option β} {X Y : Nat → Bool} {base : Nat → β}

theorem ver_congr {k : Nat} : ∀ n, (∀ j, j < n → W j k ≠ none → X j = Y j) → ver W X base n k = ver W Y base n k
  | 0, _ => rfl
  | n + 1, h => by
    simp only [ver]
    rw [ver_congr n fun j hj hw => h j (by omega) hw]
    cases hw : W n k with
    | none => simp
    | some b => simp [h n (by omega) (by simp [hw])]

/-- Operation i runs: those of X that wrote there come before it. -/
theorem ver_insert {k i : Nat} (hi : X i = false) : ∀ n, i < n → (∀ j, j < n → X j = true → W j k ≠ none → W i k ≠ none → j < i) →
    ver W (fun j => decide (j = i) || X j) base n k = (W i k).getD (ver W X base n k)
  | 0, h, _ => by omega
  | n + 1, h, hc => by
    simp only [ver]
    by_cases hn : n = i
    · subst hn
      simp only [decide_true, Bool.true_or, if_true, hi]
      cases hw : W n k with
      | some b => rfl
      | none =>
        simp only [Option.getD_none]
        exact ver_congr n fun j hj _ => by simp [show j ≠ n by omega]
    · have ih := ver_insert (k := k) hi n (by omega) fun j hj => hc j (by omega)
      simp only [hn, decide_false, Bool.false_or]
      cases hX : X n with
      | false => simp only [if_false, Bool.false_eq_true]; exact ih
      | true =>
        simp only [if_true]
        cases hw : W n k with
        | none => simp only [Option.getD_none]; exact ih
        | some b =>
          simp only [Option.getD_some]
          cases hwi : W i k with
          | none => rfl
          | some b' =>
            have := hc n (by omega) hX (by simp [hw]) (by simp [hwi])
            omega

/-- All those before i, and those alone. -/
theorem ver_before {k i : Nat} : ∀ n, i ≤ n → ver W (fun j => decide (j < i)) base n k = ver W (fun _ => true) base i k
  | 0, h => by
    have : i = 0 := by omega
    subst this
    rfl
  | n + 1, h => by
    rcases Nat.lt_or_ge n i with hn | hn
    · have : i = n + 1 := by omega
      subst this
      exact ver_congr _ fun j hj _ => by simp [hj]
    · simp only [ver]
      rw [if_neg (by simp; omega)]
      exact ver_before n hn
end

/-- What an operation writes: temporaries; rows. -/
def WT (ops : Array Oper) (ef : Nat → Eff) (i k : Nat) : Option AV := match (ops[i]?).bind (·.dst) with
  | some d => if k = d then some (ef i).val else none
  | none => none

def WR (ln : Nat → Nat) (ef : Nat → Eff) (i k : Nat) : Option (Option Row) := match lookupU (ef i).upd k with
  | some r => some (some r)
  | none => if ln i ≤ k ∧ k < ln i + (ef i).new.length then some ((ef i).new[k - ln i]?) else none

theorem applyM_WR (ln : Nat → Nat) (ef : Nat → Eff) (i : Nat) (m : Rows) (k : Nat) : applyM m (ln i) (ef i) k = (WR ln ef i k).getD (m k) := by
  simp only [applyM, WR]
  cases lookupU (ef i).upd k with
  | some r => rfl
  | none => by_cases h : ln i ≤ k ∧ k < ln i + (ef i).new.length <;> simp [h]

theorem putA_WT (ops : Array Oper) (ef : Nat → Eff) (i : Nat) (o : Oper) (ho : ops[i]? = some o) (t : Nat → AV) (k : Nat) : putA t o.dst (ef i).val k = (WT ops ef i k).getD (t k) := by
  simp only [WT, ho, Option.bind_some]
  cases o.dst with
  | none => rfl
  | some d => by_cases h : k = d <;> simp [putA, upd, h]

theorem lookupU_some {us : List (Nat × Row)} {k : Nat} {r : Row} (h : lookupU us k = some r) : (k, r) ∈ us := by
  induction us with
  | nil => simp [lookupU] at h
  | cons u us ih =>
    obtain ⟨i, q⟩ := u
    simp only [lookupU] at h
    split at h
    · rename_i he; injection h with h; subst h; subst he; simp
    · exact List.mem_cons_of_mem _ (ih h)

theorem lookupU_none {us : List (Nat × Row)} {k : Nat} (h : lookupU us k = none) : ∀ p ∈ us, p.1 ≠ k := by
  induction us with
  | nil => intro p hp; cases hp
  | cons u us ih =>
    obtain ⟨i, q⟩ := u
    simp only [lookupU] at h
    split at h
    · cases h
    · rename_i hne
      intro p hp
      rcases List.mem_cons.1 hp with rfl | hp
      · exact hne
      · exact ih h p hp

theorem applyE_get {rows : List Row} {e : Eff} (hn : (e.upd.map (·.1)).Nodup) (hl : ∀ p ∈ e.upd, p.1 < rows.length) (k : Nat) : (applyE rows e)[k]? = applyM (fun i => rows[i]?) rows.length e k ∧ (applyE rows e).length = rows.length + e.new.length := by
  have key : ∀ (us : List (Nat × Row)) (rs : List Row), (us.map (·.1)).Nodup → (∀ p ∈ us, p.1 < rs.length) → (us.foldl (fun rs p => rs.set p.1 p.2) rs).length = rs.length ∧
      ∀ k, k < rs.length → (us.foldl (fun rs p => rs.set p.1 p.2) rs)[k]? = match lookupU us k with
        | some r => some r
        | none => rs[k]? := by
    intro us
    induction us with
    | nil => intro rs _ _; exact ⟨rfl, fun k _ => rfl⟩
    | cons u us ih =>
      intro rs hn hl
      obtain ⟨i, r⟩ := u
      simp only [List.map_cons, List.nodup_cons] at hn
      obtain ⟨k1, k2⟩ := ih (rs.set i r) hn.2 fun p hp => by simpa using hl p (List.mem_cons_of_mem _ hp)
      refine ⟨by simpa using k1, fun k hk => ?_⟩
      simp only [List.foldl_cons]
      rw [k2 k (by simpa using hk)]
      simp only [lookupU]
      by_cases hik : i = k
      · subst hik
        have : lookupU us i = none := by
          cases hu : lookupU us i with
          | none => rfl
          | some q => exact absurd (List.mem_map.2 ⟨_, lookupU_some hu, rfl⟩) hn.1
        rw [this, if_pos rfl]
        simp [hk]
      · rw [if_neg hik]
        cases lookupU us k with
        | some q => rfl
        | none => simp [List.getElem?_set, hik]
  obtain ⟨k1, k2⟩ := key e.upd rows hn hl
  refine ⟨?_, by simp [applyE, k1]⟩
  simp only [applyE, applyM]
  rcases Nat.lt_or_ge k rows.length with hk | hk
  · rw [List.getElem?_append_left (by omega), k2 k hk, if_neg (by omega)]
    cases lookupU e.upd k <;> rfl
  · rw [List.getElem?_append_right (by omega), k1]
    have : lookupU e.upd k = none := by
      cases hu : lookupU e.upd k with
      | none => rfl
      | some q => have := hl _ (lookupU_some hu); simp at this; omega
    rw [this]
    simp only
    split
    · rfl
    · rw [List.getElem?_eq_none (by omega), List.getElem?_eq_none (by omega)]

/-- What is said of calls is right. -/
def FnRec (E : Env) (rec : Task → Option Res) : Prop := ∀ f args rows r out, rec (.fn f args rows) = some (.fn r out) → FnOk E f args rows r out

/-- The operation comes to e, its call (if it is one) answered rightly. -/
def By (E : Env) (o : Op) (t : Nat → AV) (m : Rows) (next : Nat) (e : Eff) : Prop := ∃ rec, FnRec E rec ∧ stepOp E rec o t m next = some e

/-- One operation as the region's own run took it. -/
def Took (E : Env) (nt : Nat) (ops : Array Oper) (o : Oper) (t : Nat → AV) (rows : List Row) (e : Eff) : Prop :=
  dstOk nt o.dst = true ∧ sureG ops o t = true ∧ ((wantedA ops o t = true ∧ By E o.op t (fun i => rows[i]?) rows.length e) ∨ (wantedA ops o t = false ∧ e = ⟨.tup [], [], [], []⟩))

theorem run_trace {E : Env} {rec : Task → Option Res} (hrec : FnRec E rec) {nt : Nat} {ops : Array Oper} : ∀ (l : List Oper) (s s' : St) (evs : List Ev), runOps E rec nt ops l s = some (s', evs) →
    ∃ (T : Nat → Nat → AV) (Rw : Nat → List Row) (ef : Nat → Eff), T 0 = s.t ∧ Rw 0 = s.rows ∧ s' = ⟨T l.length, Rw l.length⟩ ∧ evs.length = l.length ∧
      ∀ (i : Nat) (o : Oper), l[i]? = some o → Took E nt ops o (T i) (Rw i) (ef i) ∧ T (i + 1) = putA (T i) o.dst (ef i).val ∧ Rw (i + 1) = applyE (Rw i) (ef i) ∧ evs[i]? = some (evOf (Rw i).length (ef i))
  | [], s, s', evs, h => by
    simp only [runOps] at h
    cases h
    exact ⟨fun _ => s.t, fun _ => s.rows, fun _ => ⟨.tup [], [], [], []⟩, rfl, rfl, rfl, rfl, fun i o ho => by simp at ho⟩
  | o :: os, s, s', evs, h => by
    have key : ∃ e s1 evs', Took E nt ops o s.t s.rows e ∧ s1 = ⟨putA s.t o.dst e.val, applyE s.rows e⟩ ∧ runOps E rec nt ops os s1 = some (s', evs') ∧ evs = evOf s.rows.length e :: evs' := by
      simp only [runOps] at h
      split at h
      · cases h
      rename_i hd
      have hd' : dstOk nt o.dst = true := by
        cases hh : dstOk nt o.dst with
        | true => rfl
        | false => exact absurd (.inl hh) hd
      have hg' : sureG ops o s.t = true := by
        cases hh : sureG ops o s.t with
        | true => rfl
        | false => exact absurd (.inr hh) hd
      split at h
      · rename_i hw
        split at h
        case h_2 => cases h
        rename_i e he
        split at h
        case h_2 => cases h
        rename_i s'' evs' hr
        injection h with h
        injection h with h1 h2
        subst h1
        exact ⟨e, _, evs', ⟨hd', hg', .inl ⟨hw, rec, hrec, he⟩⟩, rfl, hr, h2.symm⟩
      · rename_i hw
        split at h
        case h_2 => cases h
        rename_i s'' evs' hr
        injection h with h
        injection h with h1 h2
        subst h1
        exact ⟨⟨.tup [], [], [], []⟩, _, evs', ⟨hd', hg', .inr ⟨by simpa using hw, rfl⟩⟩, rfl, by simpa [applyE] using hr, by rw [← h2]; simp [evOf]⟩
    obtain ⟨e, s1, evs', k1, rfl, k3, rfl⟩ := key
    obtain ⟨T, Rw, ef, g1, g2, g3, g4, g5⟩ := run_trace hrec os _ s' evs' k3
    refine ⟨fun i => match i with | 0 => s.t | i + 1 => T i, fun i => match i with | 0 => s.rows | i + 1 => Rw i, fun i => match i with | 0 => e | i + 1 => ef i, rfl, rfl, by simpa using g3, by simp [g4], fun i o' ho' => ?_⟩
    cases i with
    | zero => simp at ho'; subst ho'; exact ⟨k1, g1, g2, rfl⟩
    | succ i => simpa using g5 i o' (by simpa using ho')

end Go.AI

/-
  A region, in whatever order its operations come: the proof.
-/
set_option linter.unusedVariables false
set_option linter.unusedSimpArgs false
namespace Go.AI

/-- A region's own run, operation by operation. -/
structure Run (E : Env) (nt : Nat) (ops : Array Oper) (T : Nat → Nat → AV) (Rw : Nat → List Row) (ef : Nat → Eff) : Prop where
  took : ∀ (i : Nat) (o : Oper), ops[i]? = some o → Took E nt ops o (T i) (Rw i) (ef i) ∧ T (i + 1) = putA (T i) o.dst (ef i).val ∧ Rw (i + 1) = applyE (Rw i) (ef i)

section
variable {E : Env} {nt : Nat} {ops : Array Oper} {T : Nat → Nat → AV} {Rw : Nat → List Row} {ef : Nat → Eff}

def ln (Rw : Nat → List Row) (i : Nat) : Nat := (Rw i).length
def tX (ops : Array Oper) (T : Nat → Nat → AV) (ef : Nat → Eff) (X : Nat → Bool) : Nat → AV := ver (WT ops ef) X (T 0) ops.size
def mX (ops : Array Oper) (Rw : Nat → List Row) (ef : Nat → Eff) (X : Nat → Bool) : Rows := ver (WR (ln Rw) ef) X (fun k => (Rw 0)[k]?) ops.size
def freeX (ops : Array Oper) (Rw : Nat → List Row) (ef : Nat → Eff) (X : Nat → Bool) (id : Nat) : Prop := ln Rw 0 ≤ id ∧ ∀ j, j < ops.size → X j = true → ¬(ln Rw j ≤ id ∧ id < ln Rw j + (ef j).new.length)

/-- Operation j writes what operation i looks at or writes. -/
def Meets (ops : Array Oper) (Rw : Nat → List Row) (ef : Nat → Eff) (o : Oper) (i j : Nat) : Prop :=
  (∃ d, WT ops ef j d ≠ none ∧ (d ∈ looks ops o ∨ WT ops ef i d ≠ none)) ∨ ∃ id, WR (ln Rw) ef j id ≠ none ∧ (id ∈ (ef i).use ∨ WR (ln Rw) ef i id ≠ none)

theorem Took.upd (hp : PrimOk E) {o : Oper} {t : Nat → AV} {rows : List Row} {e : Eff} (h : Took E nt ops o t rows e) : (e.upd.map (·.1)).Nodup ∧ ∀ q ∈ e.upd, q.1 < rows.length := by
  rcases h.2.2 with ⟨_, rec, _, h⟩ | ⟨_, rfl⟩
  · obtain ⟨h1, h2⟩ := stepOp_upd hp h
    refine ⟨h1, fun q hq => ?_⟩
    obtain ⟨r, hr⟩ := h2 q hq
    exact (List.getElem?_eq_some_iff.1 hr).1
  · exact ⟨List.nodup_nil, fun q hq => by cases hq⟩

theorem Run.len (hp : PrimOk E) (h : Run E nt ops T Rw ef) {i : Nat} (hi : i < ops.size) : ln Rw (i + 1) = ln Rw i + (ef i).new.length := by
  obtain ⟨h1, _, h3⟩ := h.took i _ (Array.getElem?_eq_getElem hi)
  obtain ⟨u1, u2⟩ := h1.upd hp
  unfold ln
  rw [h3]
  exact (applyE_get u1 u2 0).2

theorem Run.len_le (hp : PrimOk E) (h : Run E nt ops T Rw ef) {i j : Nat} (hij : i ≤ j) (hj : j ≤ ops.size) : ln Rw i ≤ ln Rw j := by
  induction j with
  | zero => have : i = 0 := by omega
            subst this; exact Nat.le_refl _
  | succ j ih =>
    rcases Nat.lt_or_ge j i with hl | hl
    · have : i = j + 1 := by omega
      subst this; exact Nat.le_refl _
    · have := ih hl (by omega)
      rw [h.len hp (show j < ops.size by omega)]
      omega

theorem Run.t_eq (h : Run E nt ops T Rw ef) (k : Nat) : ∀ i, i ≤ ops.size → T i k = ver (WT ops ef) (fun _ => true) (T 0) i k
  | 0, _ => rfl
  | i + 1, hi => by
    have hg : ops[i]? = some ops[i] := Array.getElem?_eq_getElem (by omega)
    obtain ⟨_, h2, _⟩ := h.took i _ hg
    rw [h2, putA_WT ops ef i _ hg]
    simp only [ver, if_true]
    rw [h.t_eq k i (by omega)]

theorem Run.r_eq (hp : PrimOk E) (h : Run E nt ops T Rw ef) (k : Nat) : ∀ i, i ≤ ops.size → (Rw i)[k]? = ver (WR (ln Rw) ef) (fun _ => true) (fun k => (Rw 0)[k]?) i k
  | 0, _ => rfl
  | i + 1, hi => by
    have hg : ops[i]? = some ops[i] := Array.getElem?_eq_getElem (by omega)
    obtain ⟨h1, _, h3⟩ := h.took i _ hg
    obtain ⟨u1, u2⟩ := h1.upd hp
    rw [h3, (applyE_get u1 u2 k).1]
    show applyM _ (ln Rw i) (ef i) k = _
    rw [applyM_WR]
    simp only [ver, if_true]
    rw [← h.r_eq hp k i (by omega)]

theorem sureG_same {o : Oper} {t t' : Nat → AV} (h : ∀ d ∈ looks ops o, t d = t' d) : sureG ops o t = sureG ops o t' := by
  unfold sureG
  cases hg : o.guard with
  | none => rfl
  | some g =>
    obtain ⟨j, want⟩ := g
    simp only
    cases hd : (ops[j]?).bind (·.dst) with
    | none => rfl
    | some d =>
      simp only
      rw [h d (by simp [looks, hg, hd])]

theorem wantedA_same {o : Oper} {t t' : Nat → AV} (h : ∀ d ∈ looks ops o, t d = t' d) : wantedA ops o t = wantedA ops o t' := by
  unfold wantedA
  cases hg : o.guard with
  | none => rfl
  | some g =>
    obtain ⟨j, want⟩ := g
    simp only
    cases hd : (ops[j]?).bind (·.dst) with
    | none => rfl
    | some d =>
      simp only
      rw [h d (by simp [looks, hg, hd])]

variable {S O : Nat → Prop} {ρ0 : Map} {w0 w : World} {a : Act} {Q : Exit → Act → World → Prop} {X : Nat → Bool}

theorem Inv.weaken {t : Nat → AV} {m : Rows} {free free' : Nat → Prop} (h : Inv S O ρ0 w0 nt t m free a w) (hf : ∀ id, free' id → free id) : Inv S O ρ0 w0 nt t m free' a w :=
  let ⟨h1, h2, h3, ρ, h4, h5, h6, h7⟩ := h
  ⟨h1, h2, h3, ρ, h4, h5, h6, fun id hid => h7 id (hf id hid)⟩

theorem Run.step (hp : PrimOk E) (h : Run E nt ops T Rw ef) (hfr : Fr S O w0) (hgl : GlobOk E S w0)
    {i : Nat} {o : Oper} (ho : ops[i]? = some o) (hi : X i = false) (hc : ∀ j, j < ops.size → j ≠ i → Meets ops Rw ef o i j → (X j = true ↔ j < i))
    (hin : Inv S O ρ0 w0 nt (tX ops T ef X) (mX ops Rw ef X) (freeX ops Rw ef X) a w) {K : Act → World → Prop}
    (hK : ∀ a' w', Inv S O ρ0 w0 nt (tX ops T ef fun j => decide (j = i) || X j) (mX ops Rw ef fun j => decide (j = i) || X j) (freeX ops Rw ef fun j => decide (j = i) || X j) a' w' → K a' w') :
    wpOp E.P ops Q i K a w := by
  have hlt : i < ops.size := (Array.getElem?_eq_some_iff.1 ho).1
  obtain ⟨htook, hT, hR⟩ := h.took i o ho
  obtain ⟨u1, u2⟩ := htook.upd hp
  obtain ⟨hd, hsure, hcase⟩ := htook
  have hsame : ∀ {β : Type} (W : Nat → Nat → Option β) (base : Nat → β) (k : Nat), (∀ j, j < ops.size → j ≠ i → W j k ≠ none → Meets ops Rw ef o i j) → ver W (fun _ => true) base i k = ver W X base ops.size k := by
    intro β W base k hm
    rw [← ver_before ops.size (by omega)]
    refine ver_congr _ fun j hj hw => ?_
    by_cases hji : j = i
    · subst hji; simp [hi]
    · have := hc j hj hji (hm j hj hji hw)
      by_cases hx : X j = true
      · simp [hx, this.1 hx]
      · have : ¬ j < i := fun hl => hx (this.2 hl)
        simp [this]; simpa using hx
  have hlooks : ∀ d ∈ looks ops o, T i d = tX ops T ef X d := fun d hdl => by
    rw [h.t_eq d i (by omega)]
    exact hsame _ _ d fun j _ _ hw => .inl ⟨d, hw, .inl hdl⟩
  have huse : SameR (fun k => (Rw i)[k]?) (mX ops Rw ef X) (ef i).use := fun id hid => by
    show (Rw i)[id]? = _
    rw [h.r_eq hp id i (by omega)]
    exact hsame _ _ id fun j _ _ hw => .inr ⟨id, hw, .inl hid⟩
  have ht' : putA (tX ops T ef X) o.dst (ef i).val = tX ops T ef fun j => decide (j = i) || X j := by
    funext k
    rw [putA_WT ops ef i o ho]
    exact (ver_insert hi _ hlt fun j hj hx hw hwi => (hc j hj (fun e => by rw [e, hi] at hx; cases hx) (.inl ⟨k, hw, .inr hwi⟩)).1 hx).symm
  have hm' : applyM (mX ops Rw ef X) (ln Rw i) (ef i) = mX ops Rw ef fun j => decide (j = i) || X j := by
    funext k
    rw [applyM_WR]
    exact (ver_insert hi _ hlt fun j hj hx hw hwi => (hc j hj (fun e => by rw [e, hi] at hx; cases hx) (.inr ⟨k, hw, .inr hwi⟩)).1 hx).symm
  have hfree : ∀ id, freeX ops Rw ef (fun j => decide (j = i) || X j) id → freeX ops Rw ef X id ∧ ¬(ln Rw i ≤ id ∧ id < ln Rw i + (ef i).new.length) :=
    fun id hid => ⟨⟨hid.1, fun j hj hx => hid.2 j hj (by simp [hx])⟩, hid.2 i hlt (by simp)⟩
  have hw : Region.wanted o (yielded ops a.tmps) = wantedA ops o (T i) := by
    obtain ⟨_, _, _, ρ, _, _, h6, _⟩ := hin
    rw [wanted_eq (ρ := ρ) h6 (by rw [← sureG_same hlooks]; exact hsure), wantedA_same hlooks]
  unfold wpOp
  rw [ho]
  simp only
  rcases hcase with ⟨g1, rec, hrec, g2⟩ | ⟨g1, g2⟩
  · rw [if_pos (by rw [hw, g1])]
    left
    have g3 : stepOp E rec o.op (tX ops T ef X) (mX ops Rw ef X) (ln Rw i) = some (ef i) := by
      rw [← stepOp_sameT (t := T i) o.op (fun d hdm => hlooks d (by
        simp only [looks, List.mem_append]
        exact .inl (List.mem_filterMap.2 ⟨_, hdm, rfl⟩)))]
      exact stepOp_same hp g2 huse
    refine Inv.step hfr hgl hp hin g3 hrec hd u2 (fun k hk => ⟨?_, fun j hj hx hr => ?_⟩) fun a' w' hin' => hK a' w' ?_
    · have := h.len_le hp (Nat.zero_le i) (by omega)
      omega
    · have hji : j ≠ i := fun e => by rw [e, hi] at hx; cases hx
      rcases Nat.lt_or_gt_of_ne hji with hl | hl
      · have h1 := h.len_le hp (show j + 1 ≤ i by omega) (by omega)
        rw [h.len hp hj] at h1
        omega
      · have h1 := h.len_le hp (show i + 1 ≤ j by omega) (by omega)
        rw [h.len hp hlt] at h1
        omega
    · rw [ht', hm'] at hin'
      exact hin'.weaken hfree
  · rw [if_neg (by rw [hw, g1]; simp)]
    have hin' := hin.skip (d := o.dst) hd
    have e1 : (ef i).val = .tup [] := by rw [g2]
    rw [← e1, ht'] at hin'
    have e2 : mX ops Rw ef X = mX ops Rw ef fun j => decide (j = i) || X j := by
      rw [← hm', g2]
      exact (applyM_pure _ _ _ _).symm
    rw [e2] at hin'
    exact hK _ _ (hin'.weaken fun id hid => (hfree id hid).1)

/-- Where a region begins and ends. -/
theorem Run.none_X (h : Run E nt ops T Rw ef) : tX ops T ef (fun _ => false) = T 0 ∧ mX ops Rw ef (fun _ => false) = fun k => (Rw 0)[k]? := by
  have key : ∀ {β : Type} (W : Nat → Nat → Option β) (base : Nat → β) (n k : Nat), ver W (fun _ => false) base n k = base k := by
    intro β W base n k
    induction n with
    | zero => rfl
    | succ n ih => simp only [ver, Bool.false_eq_true, if_false]; exact ih
  exact ⟨funext fun k => key _ _ _ k, funext fun k => key _ _ _ k⟩

theorem Run.all_X (hp : PrimOk E) (h : Run E nt ops T Rw ef) (hX : ∀ j, j < ops.size → X j = true) : tX ops T ef X = T ops.size ∧ mX ops Rw ef X = fun k => (Rw ops.size)[k]? := by
  refine ⟨funext fun k => ?_, funext fun k => ?_⟩
  · rw [h.t_eq k _ (Nat.le_refl _)]
    exact ver_congr _ fun j hj _ => by simp [hX j hj]
  · show _ = (Rw ops.size)[k]?
    rw [h.r_eq hp k _ (Nat.le_refl _)]
    exact ver_congr _ fun j hj _ => by simp [hX j hj]

theorem Run.begin (h : Run E nt ops T Rw ef) (hin : Inv S O ρ0 w0 nt (T 0) (fun k => (Rw 0)[k]?) (fun id => (Rw 0).length ≤ id) a w) : Inv S O ρ0 w0 nt (tX ops T ef fun _ => false) (mX ops Rw ef fun _ => false) (freeX ops Rw ef fun _ => false) a w := by
  rw [h.none_X.1, h.none_X.2]
  exact hin.weaken fun id hid => hid.1

theorem Run.end (hp : PrimOk E) (h : Run E nt ops T Rw ef) (hX : ∀ j, j < ops.size → X j = true) (hin : Inv S O ρ0 w0 nt (tX ops T ef X) (mX ops Rw ef X) (freeX ops Rw ef X) a w) :
    Inv S O ρ0 w0 nt (T ops.size) (fun k => (Rw ops.size)[k]?) (fun id => (Rw ops.size).length ≤ id) a w := by
  rw [(h.all_X hp hX).1, (h.all_X hp hX).2] at hin
  refine hin.weaken fun id hid => ⟨?_, fun j hj _ hr => ?_⟩
  · have := h.len_le hp (Nat.zero_le ops.size) (Nat.le_refl _)
    have hid : ln Rw ops.size ≤ id := hid
    omega
  · have h1 := h.len_le hp (show j + 1 ≤ ops.size by omega) (Nat.le_refl _)
    rw [h.len hp hj] at h1
    have hid : ln Rw ops.size ≤ id := hid
    omega

theorem Run.seq (hp : PrimOk E) (h : Run E nt ops T Rw ef) (hfr : Fr S O w0) (hgl : GlobOk E S w0)
    (hQ : ∀ a' w', Inv S O ρ0 w0 nt (T ops.size) (fun k => (Rw ops.size)[k]?) (fun id => (Rw ops.size).length ≤ id) a' w' → Q .normal a' w') :
    ∀ (k i : Nat) (a : Act) (w : World), i + k = ops.size → Inv S O ρ0 w0 nt (tX ops T ef fun j => decide (j < i)) (mX ops Rw ef fun j => decide (j < i)) (freeX ops Rw ef fun j => decide (j < i)) a w → wpOps E.P ops Q (List.range' i k) a w
  | 0, i, a, w, hk, hin => hQ _ _ (h.end hp (X := fun j => decide (j < i)) (fun j hj => by simp; omega) hin)
  | k + 1, i, a, w, hk, hin => by
    rw [List.range'_succ, wpOps_cons]
    refine h.step hp hfr hgl (X := fun j => decide (j < i)) (Array.getElem?_eq_getElem (by omega)) (by simp) (fun j _ _ _ => by simp) hin fun a' w' hin' => h.seq hp hfr hgl hQ k (i + 1) a' w' (by omega) ?_
    have : (fun j => decide (j = i) || decide (j < i)) = fun j => decide (j < i + 1) := by
      funext j
      by_cases h1 : j = i
      · subst h1; simp
      · by_cases h2 : j < i
        · simp [h2, show j < i + 1 by omega]
        · simp [h1, h2, show ¬ j < i + 1 by omega]
    rw [this] at hin'
    exact hin'

end
end Go.AI

/-
  A region whose order is drawn.
-/
set_option linter.unusedVariables false
set_option linter.unusedSimpArgs false
namespace Go.AI

section
variable {E : Env} {nt : Nat} {ops : Array Oper} {T : Nat → Nat → AV} {Rw : Nat → List Row} {ef : Nat → Eff}

/-- Whoever has run, those that it waits for have. -/
def Closed (ops : Array Oper) (X : Nat → Bool) : Prop := ∀ (j : Nat) (o : Oper), ops[j]? = some o → X j = true → ∀ e ∈ o.after.toList, Region.binds .any e = true → X e.on = true
/-- i runs before j. -/
def Bef (ops : Array Oper) (i j : Nat) : Prop := ∀ X, Closed ops X → X j = true → X i = true

def Parted (ops : Array Oper) (evs : List Ev) (i j : Nat) (oi oj : Oper) : Prop := tclash ops oi oj = false ∧ tclash ops oj oi = false ∧ clash (evs.getD i ⟨[], []⟩) (evs.getD j ⟨[], []⟩) = false

theorem force_eq (n : Nat) (k : Nat → Bool) : force n k = k n := by cases n <;> rfl

theorem mask_spec {acc : List Nat} {o : Oper} {j i : Nat} (ho : ops[j]? = some o) (hacc : ∀ k, k < acc.length → ∀ i, (acc.getD k 0).testBit i = true → Bef ops i k) (h : (mask o acc).testBit i = true) : Bef ops i j := by
  have key : ∀ (l : List Edge) (s : Nat), (∀ e ∈ l, e ∈ o.after.toList) → (∀ i, s.testBit i = true → Bef ops i j) → ∀ i,
      (l.foldl (fun s e => if Region.binds .any e then s ||| 2 ^ e.on ||| acc.getD e.on 0 else s) s).testBit i = true → Bef ops i j := by
    intro l
    induction l with
    | nil => intro s _ hs i hi; exact hs i hi
    | cons e l ih =>
      intro s hl hs i hi
      refine ih _ (fun e' he' => hl e' (by simp [he'])) (fun i hi => ?_) i hi
      change ((if Region.binds .any e then s ||| 2 ^ e.on ||| acc.getD e.on 0 else s) : Nat).testBit i = true at hi
      split at hi
      · rename_i hb
        rw [Nat.testBit_or, Nat.testBit_or, Bool.or_eq_true, Bool.or_eq_true] at hi
        rcases hi with (hi | hi) | hi
        · exact hs i hi
        · rw [Nat.testBit_two_pow] at hi
          have : e.on = i := by simpa using hi
          subst this
          exact fun X hX hj => hX j o ho hj e (hl e (by simp)) hb
        · rcases Nat.lt_or_ge e.on acc.length with hlt | hge
          · exact fun X hX hj => hacc _ hlt i hi X hX (hX j o ho hj e (hl e (by simp)) hb)
          · rw [List.getD_eq_getElem?_getD, List.getElem?_eq_none hge] at hi
            simp at hi
      · exact hs i hi
  exact key o.after.toList 0 (fun _ h => h) (fun i hi => by simp at hi) i h

theorem apartGo_spec {evs : List Ev} : ∀ (l : List Oper) (j : Nat) (acc : List Nat), (∀ k, l[k]? = ops[j + k]?) → acc.length = j → (∀ k, k < acc.length → ∀ i, (acc.getD k 0).testBit i = true → Bef ops i k) →
    apartGo ops evs l j acc = true → ∀ b o, j ≤ b → ops[b]? = some o → (∀ e ∈ o.after.toList, Region.binds .any e = true → e.on < b) ∧ ∀ i oi, i < b → ops[i]? = some oi → Bef ops i b ∨ Parted ops evs i b oi o
  | [], j, acc, hl, _, _, _, b, o, hb, ho => by
    have := hl (b - j)
    rw [show j + (b - j) = b by omega, ho] at this
    simp at this
  | x :: l, j, acc, hl, hlen, hacc, h, b, o, hb, ho => by
    simp only [apartGo, force_eq, Bool.and_eq_true, List.all_eq_true] at h
    obtain ⟨h1, h2, h3⟩ := h
    have hx : ops[j]? = some x := by have := hl 0; simpa using this.symm
    by_cases hbj : b = j
    · subst hbj
      rw [hx] at ho
      cases ho
      refine ⟨fun e he hbd => ?_, fun i oi hi hoi => ?_⟩
      · have := h1 e he
        simpa [hbd] using this
      · have := h2 i (by simp [hi])
        rw [Bool.or_eq_true] at this
        rcases this with h4 | h4
        · exact .inl (mask_spec hx hacc h4)
        · right
          rw [show ops.getD i default = oi by simp [Array.getD_eq_getD_getElem?, hoi]] at h4
          simpa [Parted, and_assoc] using h4
    · refine apartGo_spec l (j + 1) (acc ++ [mask x acc]) (fun k => ?_) (by simp [hlen]) (fun k hk i hi => ?_) h3 b o (by omega) ho
      · have := hl (k + 1)
        simpa [Nat.add_assoc, Nat.add_comm 1 k] using this
      · rcases Nat.lt_or_ge k acc.length with hk' | hk'
        · rw [List.getD_eq_getElem?_getD, List.getElem?_append_left hk', ← List.getD_eq_getElem?_getD] at hi
          exact hacc k hk' i hi
        · have : k = j := by simp at hk; omega
          subst this
          rw [List.getD_eq_getElem?_getD, List.getElem?_append_right (by omega)] at hi
          simp [hlen] at hi
          exact mask_spec hx hacc hi

theorem apartOk_spec {evs : List Ev} (h : apartOk ops evs = true) : ∀ b o, ops[b]? = some o → (∀ e ∈ o.after.toList, Region.binds .any e = true → e.on < b) ∧ ∀ i oi, i < b → ops[i]? = some oi → Bef ops i b ∨ Parted ops evs i b oi o :=
  fun b o ho => apartGo_spec ops.toList 0 [] (fun k => by simp) rfl (fun k hk => by simp at hk) h b o (Nat.zero_le _) ho

theorem WT_dst {j d : Nat} {o : Oper} (ho : ops[j]? = some o) (h : WT ops ef j d ≠ none) : o.dst = some d := by
  simp only [WT, ho, Option.bind_some] at h
  cases hd : o.dst with
  | none => simp [hd] at h
  | some d' =>
    rw [hd] at h
    simp only at h
    split at h
    · rename_i he; rw [he]
    · exact absurd rfl h

theorem WR_touch {j id : Nat} (h : WR (ln Rw) ef j id ≠ none) : id ∈ (evOf (ln Rw j) (ef j)).touch := by
  simp only [WR] at h
  simp only [evOf, List.mem_append, List.mem_map, List.mem_range]
  cases hu : lookupU (ef j).upd id with
  | some r => exact .inl ⟨_, lookupU_some hu, rfl⟩
  | none =>
    rw [hu] at h
    simp only at h
    split at h
    · rename_i hc; exact .inr ⟨id - ln Rw j, by omega, by omega⟩
    · exact absurd rfl h

theorem parted_not {evs : List Ev} (hev : ∀ i, i < ops.size → evs[i]? = some (evOf (ln Rw i) (ef i))) {i j : Nat} {oi oj : Oper} (hoi : ops[i]? = some oi) (hoj : ops[j]? = some oj)
    (hp : Parted ops evs i j oi oj ∨ Parted ops evs j i oj oi) : ¬ Meets ops Rw ef oi i j := by
  have hi := hev i (Array.getElem?_eq_some_iff.1 hoi).1
  have hj := hev j (Array.getElem?_eq_some_iff.1 hoj).1
  have ei : evs.getD i ⟨[], []⟩ = evOf (ln Rw i) (ef i) := by simp [List.getD_eq_getElem?_getD, hi]
  have ej : evs.getD j ⟨[], []⟩ = evOf (ln Rw j) (ef j) := by simp [List.getD_eq_getElem?_getD, hj]
  have ht : tclash ops oj oi = false := by
    rcases hp with h | h
    · exact h.2.1
    · exact h.1
  rintro (⟨d, h1, h2⟩ | ⟨id, h1, h2⟩)
  · have e1 := WT_dst hoj h1
    simp only [tclash, e1, Bool.or_eq_false_iff] at ht
    rcases h2 with h2 | h2
    · have := ht.1
      simp at this
      exact this h2
    · have := WT_dst hoi h2
      simp [this] at ht
  · have e1 := WR_touch h1
    have h3 : id ∈ (evOf (ln Rw i) (ef i)).use ∨ id ∈ (evOf (ln Rw i) (ef i)).touch := h2.imp (fun h => h) WR_touch
    rcases hp with ⟨_, _, h4⟩ | ⟨_, _, h4⟩ <;> rw [ei, ej] at h4 <;> simp only [clash, Bool.or_eq_false_iff, List.any_eq_false] at h4
    · rcases h3 with h3 | h3
      · exact absurd (h4.2 id e1) (by simp [h3])
      · exact absurd (h4.1 id h3) (by simp [e1])
    · have := h4.1 id e1
      rcases h3 with h3 | h3
      · exact absurd this (by simp [h3])
      · exact absurd this (by simp [h3])

variable {S O : Nat → Prop} {ρ0 : Map} {w0 w : World} {a : Act} {Q : Exit → Act → World → Prop} {X : Nat → Bool}

theorem Run.any (hp : PrimOk E) (h : Run E nt ops T Rw ef) (hfr : Fr S O w0) (hgl : GlobOk E S w0)
    {evs : List Ev} (hev : ∀ i, i < ops.size → evs[i]? = some (evOf (ln Rw i) (ef i))) (hap : apartOk ops evs = true)
    (hQ : ∀ a' w', Inv S O ρ0 w0 nt (T ops.size) (fun k => (Rw ops.size)[k]?) (fun id => (Rw ops.size).length ≤ id) a' w' → Q .normal a' w') :
    ∀ (fuel : Nat) (listed : Array Bool) (a : Act) (w : World), listed.size = ops.size → (List.range ops.size).countP (fun j => !listed.getD j false) ≤ fuel → Closed ops (fun j => listed.getD j false) →
      Inv S O ρ0 w0 nt (tX ops T ef fun j => listed.getD j false) (mX ops Rw ef fun j => listed.getD j false) (freeX ops Rw ef fun j => listed.getD j false) a w → wpAny E.P .any ops Q fuel listed a w := by
  have hspec := apartOk_spec hap
  -- when nobody is ready, all have run
  have hdone : ∀ (listed : Array Bool), listed.size = ops.size → Closed ops (fun j => listed.getD j false) → Region.ready .any ops listed = [] → ∀ j, j < ops.size → listed.getD j false = true := by
    intro listed hs hcl hr
    have : ∀ n j, j < n → j < ops.size → listed.getD j false = true := by
      intro n
      induction n with
      | zero => intro j hj; omega
      | succ n ih =>
        intro j hj hjs
        cases hx : listed.getD j false with
        | true => rfl
        | false =>
          exfalso
          have hg : ops[j]? = some ops[j] := Array.getElem?_eq_getElem hjs
          have hmem : j ∈ Region.ready .any ops listed := by
            simp only [Region.ready, List.mem_filter, List.mem_range, Bool.and_eq_true]
            refine ⟨hjs, ?_, ?_⟩
            · simp only [Array.getD_eq_getD_getElem?, Array.getElem?_eq_getElem (show j < listed.size by omega), Option.getD_some] at hx ⊢
              simp [hx]
            · rw [hg]
              simp only [Option.map_some, Option.getD_some, Array.all_eq_true_iff_forall_mem]
              intro e he
              cases hb : Region.binds .any e with
              | false => rfl
              | true =>
                have hlt := (hspec j _ hg).1 e (by simpa using he) hb
                simp only [Bool.not_true, Bool.false_or]
                exact ih e.on (by omega) (by omega)
          rw [hr] at hmem
          cases hmem
    exact fun j hj => this (j + 1) j (by omega) hj
  intro fuel
  induction fuel with
  | zero =>
    intro listed a w hs hf hcl hin
    have hall : ∀ j, j < ops.size → listed.getD j false = true := by
      intro j hj
      have h0 : (List.range ops.size).countP (fun j => !listed.getD j false) = 0 := by omega
      rw [List.countP_eq_zero] at h0
      have := h0 j (by simp [hj])
      simpa using this
    refine ⟨?_, hQ _ _ (h.end hp (X := fun j => listed.getD j false) hall hin)⟩
    simp only [Region.ready, List.filter_eq_nil_iff, List.mem_range]
    intro j hj
    have := hall j hj
    simp only [Array.getD_eq_getD_getElem?, Array.getElem?_eq_getElem (show j < listed.size by omega), Option.getD_some] at this ⊢
    simp [this]
  | succ fuel ih =>
    intro listed a w hs hf hcl hin
    refine ⟨fun hr => hQ _ _ (h.end hp (X := fun j => listed.getD j false) (hdone listed hs hcl hr) hin), fun i hi => ?_⟩
    simp only [Region.ready, List.mem_filter, List.mem_range, Bool.and_eq_true] at hi
    obtain ⟨hlt, hi1, hi2⟩ := hi
    have hg : ops[i]? = some ops[i] := Array.getElem?_eq_getElem hlt
    have hXi : listed.getD i false = false := by
      simp only [Array.getD_eq_getD_getElem?, Array.getElem?_eq_getElem (show i < listed.size by omega), Option.getD_some] at hi1 ⊢
      simpa using hi1
    have hedges : ∀ e ∈ ops[i].after.toList, Region.binds .any e = true → listed.getD e.on false = true := by
      rw [hg] at hi2
      simp only [Option.map_some, Option.getD_some, Array.all_eq_true_iff_forall_mem] at hi2
      intro e he hb
      have := hi2 e (by simpa using he)
      simpa [hb] using this
    have hX' : (fun j => (listed.setIfInBounds i true).getD j false) = fun j => decide (j = i) || listed.getD j false := by
      funext j
      simp only [Array.getD_eq_getD_getElem?, Array.getElem?_setIfInBounds]
      by_cases hj : i = j
      · subst hj; simp [hs, hlt]
      · simp [hj, Ne.symm hj]
    have hcl' : Closed ops fun j => decide (j = i) || listed.getD j false := by
      intro j o ho hj e he hb
      by_cases hji : j = i
      · subst hji
        rw [hg] at ho
        cases ho
        simp [hedges e he hb]
      · have : listed.getD j false = true := by simpa [hji] using hj
        have : listed.getD e.on false = true := hcl j o ho this e he hb
        show (decide (e.on = i) || listed.getD e.on false) = true
        rw [this]; simp
    refine h.step hp hfr hgl (X := fun j => listed.getD j false) hg hXi (fun j hj hji hm => ?_) hin fun a' w' hin' => ih _ a' w' (by simp [hs]) ?_ (by rw [hX']; exact hcl') (by rw [hX']; exact hin')
    · have hgj : ops[j]? = some ops[j] := Array.getElem?_eq_getElem hj
      rcases Nat.lt_or_gt_of_ne hji with hl | hl
      · rcases (hspec i _ hg).2 j _ hl hgj with hb | hb
        · have := hb _ hcl' (by simp)
          simp only [hji, decide_false, Bool.false_or] at this
          simp [this, hl]
        · exact absurd hm (parted_not hev hg hgj (.inr hb))
      · rcases (hspec j _ hgj).2 i _ hl hg with hb | hb
        · constructor
          · intro hx
            have : listed.getD i false = true := hb _ hcl hx
            rw [hXi] at this
            cases this
          · intro h'; omega
        · exact absurd hm (parted_not hev hg hgj (.inl hb))
    · have hcnt : (List.range ops.size).countP (fun j => !(listed.setIfInBounds i true).getD j false) + 1 ≤ (List.range ops.size).countP (fun j => !listed.getD j false) := by
        have e1 : (fun j => !(listed.setIfInBounds i true).getD j false) = fun j => !(decide (j = i) || listed.getD j false) := by
          funext j
          have : (listed.setIfInBounds i true).getD j false = (decide (j = i) || listed.getD j false) := congrFun hX' j
          rw [this]
        rw [e1]
        have key : ∀ l : List Nat, i ∈ l → l.countP (fun j => !(decide (j = i) || listed.getD j false)) + 1 ≤ l.countP (fun j => !listed.getD j false) := by
          intro l
          induction l with
          | nil => intro h; cases h
          | cons x l ihl =>
            intro hm
            simp only [List.countP_cons]
            have hle : l.countP (fun j => !(decide (j = i) || listed.getD j false)) ≤ l.countP (fun j => !listed.getD j false) :=
              List.countP_mono_left fun y _ hy => by simp at hy ⊢; exact hy.2
            by_cases hxi : x = i
            · subst hxi
              rw [hXi]
              simp only [decide_true, Bool.true_or, Bool.not_true, Bool.not_false, if_true, Bool.false_eq_true, if_false]
              omega
            · have := ihl (by rcases List.mem_cons.1 hm with rfl | hm; exact absurd rfl hxi; exact hm)
              simp only [hxi, decide_false, Bool.false_or]
              omega
        exact key _ (by simp [hlt])
      omega

end
end Go.AI

/-
  Code, functions: what the machine of values answers, the program answers.
-/
set_option linter.unusedVariables false
set_option linter.unusedSimpArgs false
namespace Go.AI

def X.out : X → Exit
  | .normal => .normal
  | .exit id => .exit id
  | .ret => .ret

abbrev CInv (S O : Nat → Prop) (ρ0 : Map) (w0 : World) (nt : Nat) (s : St) : Act → World → Prop := Inv S O ρ0 w0 nt s.t (fun i => s.rows[i]?) (fun id => s.rows.length ≤ id)

def Post (S O : Nat → Prop) (ρ0 : Map) (w0 : World) (nt : Nat) (x : X) (s : St) : Exit → Act → World → Prop := fun e a w => e = x.out ∧ CInv S O ρ0 w0 nt s a w

/-- A loop comes to its end as the machine says. -/
def LoopOk (E : Env) (k nt : Nat) (c : Code) (s : St) (x : X) (s' : St) : Prop :=
  ∃ n, ∀ (S O : Nat → Prop) (ρ0 : Map) (w0 : World), (∀ i, k ≤ i → ρ0 i = none) → Fr S O w0 → GlobOk E S w0 → ∀ a w, CInv S O ρ0 w0 nt s a w → Code.rounds E.P c (Post S O ρ0 w0 nt x s') n a w

structure RecOk (E : Env) (rec : Task → Option Res) : Prop where
  fn : ∀ f args rows r out, rec (.fn f args rows) = some (.fn r out) → FnOk E f args rows r out
  loop : ∀ k nt c s x s', rec (.loop nt c s) = some (.code x s') → LoopOk E k nt c s x s'

section
variable {E : Env} {rec : Task → Option Res} {nt : Nat} {S O : Nat → Prop} {ρ0 : Map} {w0 w : World} {a : Act}

theorem Inv.drew {t : Nat → AV} {m : Rows} {free : Nat → Prop} (h : Inv S O ρ0 w0 nt t m free a w) : Inv S O ρ0 w0 nt t m free a { w with drawn := w.drawn + 1 } := by
  obtain ⟨h1, h2, h3, ρ, h4, h5, h6, h7⟩ := h
  refine ⟨h1, h2, ⟨h3.os, h3.tape, h3.output, h3.size, h3.block⟩, ρ, h4, ⟨h5.known, fun id r x hr hl hx => ?_, h5.inj⟩, fun d => (h6 d).mono (.refl _) (fun _ h => h) (fun _ _ => rfl), h7⟩
  obtain ⟨k1, k2⟩ := h5.ok id r x hr hl hx
  exact ⟨k1.mono (.refl _) (fun _ _ => rfl) (fun _ _ => rfl), k2⟩

theorem code_sound {k0 : Nat} (hp : PrimOk E) (hm : E.P.follows .mixedOrders = true) (hrec : RecOk E rec) (hk0 : ∀ i, k0 ≤ i → ρ0 i = none) (hfr : Fr S O w0) (hgl : GlobOk E S w0) : ∀ (c : Code) (s : St) (x : X) (s' : St), execC E rec nt c s = some (x, s') →
    ∀ a w, CInv S O ρ0 w0 nt s a w → c.wp E.P (Post S O ρ0 w0 nt x s') a w := by
  intro c
  induction c with
  | skip =>
    intro s x s' h a w hin
    simp only [execC] at h
    cases h
    exact wp_skip ⟨rfl, hin⟩
  | ret =>
    intro s x s' h a w hin
    simp only [execC] at h
    cases h
    exact wp_ret ⟨rfl, hin⟩
  | exit id =>
    intro s x s' h a w hin
    simp only [execC] at h
    cases h
    exact wp_exit ⟨rfl, hin⟩
  | region id ops draw =>
    intro s x s' h a w hin
    simp only [execC] at h
    split at h
    case h_2 => cases h
    rename_i s1 evs hrun
    split at h
    case isFalse => cases h
    rename_i hdraw
    cases h
    obtain ⟨T, Rw, ef, g1, g2, g3, g4, g5⟩ := run_trace hrec.fn _ _ _ _ hrun
    have hr : Run E nt ops T Rw ef := ⟨fun i o ho => by
      obtain ⟨k1, k2, k3, _⟩ := g5 i o (by simpa using ho)
      exact ⟨k1, k2, k3⟩⟩
    simp only [Array.length_toList] at g3 g4
    have hQ : ∀ a' w', Inv S O ρ0 w0 nt (T ops.size) (fun k => (Rw ops.size)[k]?) (fun id => (Rw ops.size).length ≤ id) a' w' → Post S O ρ0 w0 nt .normal s' .normal a' w' := fun a' w' h => ⟨rfl, by rw [g3]; exact h⟩
    cases draw with
    | false =>
      refine wp_region ?_
      have hin0 : Inv S O ρ0 w0 nt (T 0) (fun k => (Rw 0)[k]?) (fun id => (Rw 0).length ≤ id) a w := by rw [g1, g2]; exact hin
      have := hr.seq hp hfr hgl (Q := Post S O ρ0 w0 nt .normal s') hQ ops.size 0 a w (by omega) (by
        have := hr.begin hin0
        have e : (fun j : Nat => decide (j < 0)) = fun _ => false := by funext j; simp
        rw [e]; exact this)
      rwa [← List.range_eq_range'] at this
    | true =>
      refine wp_region_any hm ?_
      have hin0 : Inv S O ρ0 w0 nt (T 0) (fun k => (Rw 0)[k]?) (fun id => (Rw 0).length ≤ id) a { w with drawn := w.drawn + 1 } := by rw [g1, g2]; exact hin.drew
      have e : (fun j : Nat => (Array.replicate ops.size false).getD j false) = fun _ => false := by
        funext j
        simp only [Array.getD_eq_getD_getElem?, Array.getElem?_replicate]
        split <;> rfl
      refine hr.any hp hfr hgl (evs := evs) (fun i hi => ?_) (by simpa using hdraw) hQ ops.size _ a _ (by simp) ?_ ?_ ?_
      · obtain ⟨_, _, _, k4⟩ := g5 i ops[i] (by simp)
        exact k4
      · exact Nat.le_trans List.countP_le_length (by simp)
      · rw [e]; intro j o _ hj; cases hj
      · rw [e]; exact hr.begin hin0
  | seq c1 c2 ih1 ih2 =>
    intro s x s' h a w hin
    simp only [execC] at h
    split at h
    · rename_i s1 h1
      refine wp_seq (wp_mono (ih1 _ _ _ h1 a w hin) ?_)
      rintro e a' w' ⟨rfl, hin'⟩
      exact ih2 _ _ _ h a' w' hin'
    · rename_i hne
      refine wp_seq (wp_mono (ih1 _ _ _ h a w hin) ?_)
      rintro e a' w' ⟨rfl, hin'⟩
      cases x with
      | normal => exact absurd h (hne s')
      | exit i => exact ⟨rfl, hin'⟩
      | ret => exact ⟨rfl, hin'⟩
  | cond q c1 c2 ih1 ih2 =>
    intro s x s' h a w hin
    simp only [execC] at h
    split at h
    case h_2 => cases h
    rename_i b hq
    obtain ⟨g1, g2, g3, ρ, g4, g5, g6, g7⟩ := hin
    have hv := (ev_rep g6 (hgl.kp hfr g3) hq).val_inv.1
    have hin : CInv S O ρ0 w0 nt s a w := ⟨g1, g2, g3, ρ, g4, g5, g6, g7⟩
    refine wp_cond hv ?_
    cases b with
    | true => exact ih1 _ _ _ h a w hin
    | false => exact ih2 _ _ _ h a w hin
  | block id c ih =>
    intro s x s' h a w hin
    simp only [execC] at h
    split at h
    · rename_i i s1 h1
      split at h
      · rename_i hid
        cases h
        refine wp_block (wp_mono (ih _ _ _ h1 a w hin) ?_)
        rintro e a' w' ⟨rfl, hin'⟩
        simp only [X.out, Exit.inBlock, hid, if_true]
        exact ⟨rfl, hin'⟩
      · rename_i hid
        cases h
        refine wp_block (wp_mono (ih _ _ _ h1 a w hin) ?_)
        rintro e a' w' ⟨rfl, hin'⟩
        simp only [X.out, Exit.inBlock, hid, if_false]
        exact ⟨rfl, hin'⟩
    · rename_i hne
      refine wp_block (wp_mono (ih _ _ _ h a w hin) ?_)
      rintro e a' w' ⟨rfl, hin'⟩
      cases x with
      | normal => exact ⟨rfl, hin'⟩
      | exit i => exact absurd h (hne i s')
      | ret => exact ⟨rfl, hin'⟩
  | loop c ih =>
    intro s x s' h a w hin
    simp only [execC] at h
    split at h
    case h_2 => cases h
    rename_i x1 s1 h1
    cases h
    obtain ⟨n, hn⟩ := hrec.loop k0 _ _ _ _ _ h1
    exact wp_loop_rounds n (hn S O ρ0 w0 hk0 hfr hgl a w hin)
  | _ => intro s x s' h; simp only [execC] at h; cases h

def readR (tm : Array Value) : ResultVar → Sem Value
  | .tmp t => pure (tm.getD t undef)
  | .cell a t => do loadVar t (← asAddr (tm.getD a undef))

/-- The results of a frame. -/
theorem results_run {P : Program} {s : St} {ρ : Map} {tm : Array Value} (ht : ∀ d, Rep S ρ w (s.t d) (tm.getD d undef)) (hmr : MR S O ρ (fun i => s.rows[i]?) w) (hP : E.P = P) : ∀ (l : List ResultVar) (vs : List AV), resultsA E s l = some vs →
    ∃ us : List Value, RepL S ρ w vs us ∧ (l.mapM (readR tm)).run P w = .ok us w
  | [], vs, h => by
    simp only [resultsA] at h
    cases h
    exact ⟨[], trivial, by simp⟩
  | .tmp d :: rs, vs, h => by
    simp only [resultsA] at h
    obtain ⟨vs', h1, rfl⟩ := Option.map_eq_some_iff.1 h
    obtain ⟨us, k1, k2⟩ := results_run ht hmr hP rs vs' h1
    refine ⟨_ :: us, ⟨ht d, k1⟩, ?_⟩
    rw [List.mapM_cons]
    simp only [readR, Sem.run_bind, Sem.run_pure, k2, Result.andThen]
  | .cell d ty :: rs, vs, h => by
    simp only [resultsA] at h
    split at h
    case h_2 => cases h
    rename_i id off htd
    split at h
    case h_2 => cases h
    rename_i r hr
    split at h
    case isFalse => cases h
    rename_i hl
    split at h
    case h_2 => cases h
    rename_i v vs' h1 h2
    cases h
    obtain ⟨us, k1, k2⟩ := results_run ht hmr hP rs vs' h2
    obtain ⟨L, _, e1, hok, hrd, hone⟩ := hmr.ptr hr hl (htd ▸ ht d)
    obtain ⟨u, hu, hru⟩ := loadVar_run (P := P) (hP ▸ h1) hrd hone
    refine ⟨u :: us, ⟨hru, k1⟩, ?_⟩
    rw [List.mapM_cons]
    simp only [readR, Sem.run_bind, Sem.run_pure, k2, Result.andThen, e1, asAddr, hu]

theorem leave_ok {k : Nat} {r r' : AV} {rows : Rows} {out : List Row} {ρ : Map} {v : Value} (h : leave k r rows = some (r', out)) (hr : Rep S ρ w r v) (hmr : MR S O ρ rows w) :
    ∃ ρ' : Map, (∀ i, i < k → ρ' i = ρ i) ∧ (∀ i, out.length ≤ i → ρ' i = none) ∧ Rep S ρ' w r' v ∧ MR S O ρ' (fun i => out[i]?) w := by
  unfold leave at h
  split at h
  case h_2 => cases h
  rename_i ids hreach
  split at h
  case h_2 => cases h
  rename_i rs hrows
  cases h
  obtain ⟨hnd, hpre, htodo, hclosed, hprefix⟩ := reach_spec rows _ _ _ _ hreach List.nodup_range (fun i hi j hj => .inr (by
    simp only [List.mem_append, List.mem_flatMap]
    exact .inl ⟨i, hi, hj⟩))
  obtain ⟨hrl, hrg⟩ := rowsAt_get hrows
  have hcm : ∀ (j id : Nat), ids[j]? = some id → calleeMap ρ ids j = ρ id := fun j id hj => by simp only [calleeMap, hj]
  have hrow : ∀ (j : Nat) (q : Row), (rs.map (renR (index ids)))[j]? = some q → ∃ id q0, ids[j]? = some id ∧ rows id = some q0 ∧ q = renR (index ids) q0 := by
    intro j q hq
    rw [List.getElem?_map] at hq
    obtain ⟨q0, k1, k2⟩ := Option.map_eq_some_iff.1 hq
    obtain ⟨id, g1, g2⟩ := hrg j q0 k1
    exact ⟨id, q0, g1, g2, k2.symm⟩
  refine ⟨calleeMap ρ ids, fun i hi => hcm i i ?_, fun i hi => ?_, hr.ren _ fun id hid => calleeMap_index (htodo id (by simp [hid])), fun j q hq => ?_, fun j q x hq hl hx => ?_, fun j j' q q' L L' hq hq' hl hl' hx hx' eb => ?_⟩
  · obtain ⟨t, ht⟩ := hprefix
    rw [← ht, List.getElem?_append_left (by simpa using hi)]
    simp [hi]
  · simp only [List.length_map] at hi
    simp only [calleeMap, List.getElem?_eq_none (show ids.length ≤ i by omega)]
  · obtain ⟨id, q0, g1, g2, rfl⟩ := hrow j q hq
    rw [hcm j id g1]
    exact hmr.known id q0 g2
  · obtain ⟨id, q0, g1, g2, rfl⟩ := hrow j q hq
    rw [hcm j id g1] at hx
    have hl0 : q0.live = true := hl
    obtain ⟨k1, k2⟩ := hmr.ok id q0 x g2 hl0 hx
    refine ⟨k1.ren (ρ' := calleeMap ρ ids) (index ids) (fun i hi => calleeMap_index (hclosed id (List.mem_of_getElem? g1) i ?_)), k2⟩
    simp only [idsR, g2, hl0, if_true]; exact hi
  · obtain ⟨id, q0, g1, g2, rfl⟩ := hrow j q hq
    obtain ⟨id', q0', g1', g2', rfl⟩ := hrow j' q' hq'
    rw [hcm j id g1] at hx
    rw [hcm j' id' g1'] at hx'
    have := hmr.inj id id' q0 q0' L L' g2 g2' hl hl' hx hx' eb
    subst this
    exact (List.getElem?_inj (List.getElem?_eq_some_iff.1 g1).1 hnd).1 (g1.trans g1'.symm)

theorem fn_sound (hp : PrimOk E) (hm : E.P.follows .mixedOrders = true) (hrec : RecOk E rec) {f : FuncId} {args : List AV} {rows : List Row} {r : AV} {out : List Row} (h : F E rec (.fn f args rows) = some (.fn r out)) :
    FnOk E f args rows r out := by
  intro S O ρ w vals hfr hgl hargs hmr hnone
  simp only [F] at h
  split at h
  case h_2 => cases h
  rename_i fn hfn
  split at h
  case h_2 => cases h
  rename_i c hb
  split at h
  case isFalse => cases h
  rename_i hlen
  have hal : args.length = vals.size := by simpa using hargs.length
  -- what is left to do with the end of the code
  have hend : ∀ x s, execC E rec fn.ntmps c ⟨start args, rows⟩ = some (x, s) → (x = .normal ∨ x = .ret) → (match resultsA E s fn.results.toList with
            | some [v] => (leave rows.length v fun i => s.rows[i]?).map fun p => Res.fn p.1 p.2
            | some vs => (leave rows.length (.tup vs) fun i => s.rows[i]?).map fun p => Res.fn p.1 p.2
            | none => none) = some (.fn r out) →
      Calls E.P f vals w fun e w' => ∃ v ρ', e = .returned v ∧ (∀ i, i < rows.length → ρ' i = ρ i) ∧ (∀ i, out.length ≤ i → ρ' i = none) ∧ Kp O w w' ∧ Rep S ρ' w' r v ∧ MR S O ρ' (fun i => out[i]?) w' := by
    intro x s hx hxx hres
    refine calls_of_wp hfn hb ?_
    have hin : CInv S O ρ w fn.ntmps ⟨start args, rows⟩ { tmps := vals ++ Array.replicate (fn.ntmps - vals.size) undef, defers := [] } w := by
      refine ⟨by simp; omega, rfl, .refl _ _, ρ, .refl _, hmr, fun d => ?_, fun id hid => hnone id hid⟩
      simp only [start, Array.getD_eq_getD_getElem?, List.getD_eq_getElem?_getD]
      rcases Nat.lt_or_ge d args.length with hd | hd
      · rw [Array.getElem?_append_left (by omega), List.getElem?_eq_getElem hd, Array.getElem?_eq_getElem (by omega)]
        exact hargs.get d _ _ (List.getElem?_eq_getElem hd) (by simp)
      · rw [List.getElem?_eq_none hd]
        have : ((vals ++ Array.replicate (fn.ntmps - vals.size) undef)[d]?).getD undef = undef := by
          rw [Array.getElem?_append_right (by omega), Array.getElem?_replicate]
          split <;> rfl
        rw [this]
        exact .tup rfl (fun j c v hj _ => by simp at hj)
    refine wp_mono (code_sound hp hm hrec (k0 := rows.length) (fun i hi => hnone i hi) hfr hgl c _ _ _ hx _ w hin) ?_
    rintro e a' w' ⟨rfl, g1, g2, g3, ρ1, g4, g5, g6, g7⟩
    have hfin : a'.defers = [] ∧ ∃ v, (results fn a'.tmps).run E.P w' = .ok v w' ∧ ∃ v' ρ', Ending.returned v = .returned v' ∧ (∀ i, i < rows.length → ρ' i = ρ i) ∧ (∀ i, out.length ≤ i → ρ' i = none) ∧ Kp O w w' ∧ Rep S ρ' w' r v' ∧ MR S O ρ' (fun i => out[i]?) w' := by
      refine ⟨g2, ?_⟩
      have hknown : ∀ i, i < rows.length → ∃ q, rows[i]? = some q := fun i hi => ⟨_, List.getElem?_eq_getElem hi⟩
      have hrho : ∀ i, i < rows.length → ρ1 i = ρ i := fun i hi => by
        obtain ⟨q, hq⟩ := hknown i hi
        obtain ⟨x, hx⟩ := hmr.known i q hq
        rw [hx]; exact g4 i x hx
      cases hvs : resultsA E s fn.results.toList with
      | none => rw [hvs] at hres; cases hres
      | some vs =>
        rw [hvs] at hres
        obtain ⟨us, k1, k2⟩ := results_run g6 g5 rfl _ _ hvs
        have hrun : (results fn a'.tmps).run E.P w' = .ok (if h : us.toArray.size = 1 then us.toArray[0] else .tuple us.toArray) w' := by
          show (do let vs ← fn.results.mapM (readR a'.tmps); pure (if h : vs.size = 1 then vs[0] else .tuple vs) : Sem Value).run E.P w' = _
          rw [Array.mapM_eq_mapM_toList]
          simp only [map_eq_pure_bind, Sem.run_bind, Sem.run_pure, k2, Result.andThen]
        refine ⟨_, hrun, ?_⟩
        have hlv : ∀ (x : AV) (v : Value), Rep S ρ1 w' x v → (leave rows.length x fun i => s.rows[i]?).map (fun p => Res.fn p.1 p.2) = some (.fn r out) →
            ∃ v' ρ', Ending.returned v = .returned v' ∧ (∀ i, i < rows.length → ρ' i = ρ i) ∧ (∀ i, out.length ≤ i → ρ' i = none) ∧ Kp O w w' ∧ Rep S ρ' w' r v' ∧ MR S O ρ' (fun i => out[i]?) w' := by
          intro x v hxv hl
          obtain ⟨⟨r', out'⟩, h1, h2⟩ := Option.map_eq_some_iff.1 hl
          cases h2
          obtain ⟨ρ', q1, q2, q3, q4⟩ := leave_ok h1 hxv g5
          exact ⟨v, ρ', rfl, fun i hi => (q1 i hi).trans (hrho i hi), q2, g3, q3, q4⟩
        have hul := k1.length
        split at hres
        · rename_i v hv
          cases hv
          match us, hul, k1 with
          | [u], _, k1 => exact hlv v u k1.1 hres
        · rename_i vs' hne hv
          cases hv
          have : ¬ us.toArray.size = 1 := by
            intro h1
            simp only [List.size_toArray] at h1
            rw [h1] at hul
            match vs, hul with
            | [v], _ => exact hne v rfl
          rw [dif_neg this]
          exact hlv (.tup vs) _ (.tup_of (by simpa using k1)) hres
        · rename_i hv
          cases hv
    rcases hxx with rfl | rfl
    · exact hfin
    · exact hfin
  split at h
  · rename_i s hx
    exact hend _ s hx (.inl rfl) h
  · rename_i s hx
    exact hend _ s hx (.inr rfl) h
  · cases h

theorem loop_sound {k : Nat} (hp : PrimOk E) (hm : E.P.follows .mixedOrders = true) (hrec : RecOk E rec) {c : Code} {s s' : St} {x : X} (h : F E rec (.loop nt c s) = some (.code x s')) : LoopOk E k nt c s x s' := by
  simp only [F] at h
  split at h
  · rename_i s1 h1
    obtain ⟨n, hn⟩ := hrec.loop k _ _ _ _ _ h
    refine ⟨n + 1, fun S O ρ0 w0 hk0 hfr hgl a w hin => ?_⟩
    rw [rounds_succ]
    refine wp_mono (code_sound hp hm hrec hk0 hfr hgl c _ _ _ h1 a w hin) ?_
    rintro e a' w' ⟨rfl, hin'⟩
    exact hn S O ρ0 w0 hk0 hfr hgl a' w' hin'
  · rename_i x1 s1 hne h1
    cases h
    refine ⟨1, fun S O ρ0 w0 hk0 hfr hgl a w hin => ?_⟩
    rw [rounds_succ]
    refine wp_mono (code_sound hp hm hrec hk0 hfr hgl c _ _ _ h1 a w hin) ?_
    rintro e a' w' ⟨rfl, hin'⟩
    cases x with
    | normal => exact absurd rfl hne
    | exit i => exact ⟨rfl, hin'⟩
    | ret => exact ⟨rfl, hin'⟩
  · cases h

theorem exec_sound (hp : PrimOk E) (hm : E.P.follows .mixedOrders = true) : ∀ n, RecOk E (exec E n)
  | 0 => ⟨fun f args rows r out h => by simp [exec] at h, fun k nt c s x s' h => by simp [exec] at h⟩
  | n + 1 => ⟨fun f args rows r out h => fn_sound hp hm (exec_sound hp hm n) h, fun k nt c s x s' h => loop_sound hp hm (exec_sound hp hm n) h⟩

end
end Go.AI
