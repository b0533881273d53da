/-
  The machine of values as a predicate: what it says of a function holds of the function. Conditions: those that each lemma lists.
-/
import Derived.Test.YtjpfohbfklghdaaGreatDoorN3
set_option linter.all false
/-
  The machine of values as a predicate, told what is to hold next: every choice stands outermost (a match on a Bool), so that reading a function is a matter of reducing.
-/
set_option linter.unusedVariables false
namespace Go.AI

section
/-- There is an answer, and it does. -/
def _root_.Option.bindP {β : Type} (o : Option β) (k : β → Prop) : Prop := match o with
  | some b => k b
  | none => False

theorem _root_.Option.bindP_some {β : Type} (b : β) (k : β → Prop) : (some b).bindP k = k b := rfl

theorem _root_.Option.bindP_elim {β : Type} {o : Option β} {k : β → Prop} (h : o.bindP k) : ∃ b, o = some b ∧ k b := by
  cases o with
  | none => exact h.elim
  | some b => exact ⟨b, rfl, h⟩

/-- A choice. -/
def br (q : Bool) (x y : Prop) : Prop := match q with
  | true => x
  | false => y

theorem br_true (x y : Prop) : br true x y = x := rfl
theorem br_false (x y : Prop) : br false x y = y := rfl
theorem br_case {q : Bool} {x y : Prop} (h1 : q = true → x) (h2 : q = false → y) : br q x y := by cases q; exact h2 rfl; exact h1 rfl
theorem br_ite {q : Prop} [Decidable q] (x y : Prop) : br (decide q) x y = if q then x else y := by
  by_cases h : q <;> simp [br, h]

/-- A value's outermost form, laid open. -/
def see (v : AV) (k : AV → Prop) : Prop := match v with
  | .val x => match x with
    | .int kd n => k (.val (.int kd n))
    | .bool b => k (.val (.bool b))
    | .string s => k (.val (.string s))
    | x => k (.val x)
  | .nils => k .nils
  | .ptr i o => k (.ptr i o)
  | .sl i o n z => k (.sl i o n z)
  | .ext cs n => k (.ext cs n)
  | .eptr cs => k (.eptr cs)
  | .agg cs => k (.agg cs)
  | .tup vs => k (.tup vs)
  | .fn f cs => k (.fn f cs)
  | .junk => k .junk

theorem see_eq (v : AV) (k : AV → Prop) : see v k = k v := by
  cases v <;> try rfl
  rename_i x
  cases x <;> rfl

variable (E : Env)

def eqFieldsK (rec : TypeId → AV → AV → (Bool → Prop) → Prop) (xs ys : List AV) : List Field → (Bool → Prop) → Prop
  | [], k => k true
  | f :: fs, k => if f.name = "_" then eqFieldsK rec xs ys fs k else
    match partA E.P f.type xs f.offset, partA E.P f.type ys f.offset with
    | some a, some b => rec f.type a b fun q => br q (eqFieldsK rec xs ys fs k) (k false)
    | _, _ => False

def eqInK : Nat → TypeId → AV → AV → (Bool → Prop) → Prop
  | 0, _, _, _, _ => False
  | d + 1, t, x, y, k =>
    match E.P.underlying t, x, y with
    | some .bool, .val (.bool a), .val (.bool b) => k (a == b)
    | some (.int _), .val (.int i a), .val (.int i' b) => if i = i' then k (a == b) else False
    | some .string, .val (.string a), .val (.string b) => k (a.data.toList == b.data.toList)
    | some (.struct fields), .agg xs, .agg ys => if E.P.stoodInHeld t then False else eqFieldsK E (eqInK d) xs ys fields.toList k
    | _, _, _ => False

theorem eqFieldsK_eq {rec : TypeId → AV → AV → Option Bool} {recK : TypeId → AV → AV → (Bool → Prop) → Prop} (h : ∀ t x y k, recK t x y k = (rec t x y).bindP k) (xs ys : List AV) : ∀ (fs : List Field) (k : Bool → Prop),
    eqFieldsK E recK xs ys fs k = (eqFields E.P rec xs ys fs).bindP k
  | [], k => rfl
  | f :: fs, k => by
    simp only [eqFieldsK, eqFields]
    split
    · exact eqFieldsK_eq h xs ys fs k
    · cases partA E.P f.type xs f.offset with
      | none => rfl
      | some a =>
        cases partA E.P f.type ys f.offset with
        | none => rfl
        | some b =>
          simp only
          rw [h]
          cases rec f.type a b with
          | none => rfl
          | some q =>
            cases q
            · rfl
            · exact eqFieldsK_eq h xs ys fs k

theorem eqInK_eq : ∀ (d : Nat) (t : TypeId) (x y : AV) (k : Bool → Prop), eqInK E d t x y k = (eqIn E.P d t x y).bindP k
  | 0, _, _, _, _ => rfl
  | d + 1, t, x, y, k => by
    simp only [eqInK, eqIn]
    generalize E.P.underlying t = u
    split
    · rfl
    · simp only; split <;> rfl
    · rfl
    · simp only
      split
      · rfl
      · exact eqFieldsK_eq E (eqInK_eq d) _ _ _ k
    · rename_i h1 h2 h3 h4
      split
      · exact absurd rfl (h1 _ _ rfl rfl)
      · exact absurd rfl (h2 _ _ _ _ _ rfl rfl)
      · exact absurd rfl (h3 _ _ rfl rfl)
      · exact absurd rfl (h4 _ _ _ rfl rfl)
      · rfl

def binK (op : BinOp) (t : TypeId) (x y : AV) (k : AV → Prop) : Prop :=
  match op, x, y with
  | .quo, .val (.int i a), .val (.int i' b) => if i = i' then br (decide (b = 0)) False (k (.val (.int i (i.wrap (a.tdiv b))))) else False
  | .rem, .val (.int i a), .val (.int i' b) => if i = i' then br (decide (b = 0)) False (k (.val (.int i (a.tmod b)))) else False
  | .shl, .val (.int i a), .val (.int _ b) => br (decide (b < 0)) False (k (.val (.int i (i.wrap (a * 2 ^ (min b.toNat i.bits))))))
  | .shr, .val (.int i a), .val (.int _ b) => br (decide (b < 0)) False (k (.val (.int i (a.fdiv (2 ^ (min b.toNat i.bits))))))
  | .add, .val (.string a), .val (.string b) => br (decide (((a.size + b.size : Nat) : Int) > 9223372036854775807)) False (k (.val (.string (a ++ b))))
  | .eql, .agg xs, .agg ys => if E.P.eqGuardType E.P.depth t then False else eqInK E 10000 t (.agg xs) (.agg ys) fun q => k (.val (.bool q))
  | .neq, .agg xs, .agg ys => if E.P.eqGuardType E.P.depth t then False else eqInK E 10000 t (.agg xs) (.agg ys) fun q => k (.val (.bool (!q)))
  | op, x, y => match binA E.P op t x y with
    | some v => k v
    | none => False

theorem binK_eq (op : BinOp) (t : TypeId) (x y : AV) (k : AV → Prop) : binK E op t x y k = (binA E.P op t x y).bindP k := by
  unfold binK
  split
  · simp only [binA]; split
    · simp only [intA, br_ite]; split <;> rfl
    · rfl
  · simp only [binA]; split
    · simp only [intA, br_ite]; split <;> rfl
    · rfl
  · simp only [binA, shiftA, br_ite]; split <;> rfl
  · simp only [binA, shiftA, br_ite]; split <;> rfl
  · simp only [binA, strA, br_ite]; split <;> rfl
  · simp only [binA]; split
    · rfl
    · rw [eqInK_eq]; cases eqIn E.P 10000 t _ _ <;> rfl
  · simp only [binA]; split
    · rfl
    · rw [eqInK_eq]; cases eqIn E.P 10000 t _ _ <;> rfl
  · cases binA E.P op t x y <;> rfl

/-- A bound of a slice expression. -/
def boundK (y : Nat) (d : Nat) (v : Option AV) (k : Nat → Prop) : Prop := match v with
  | none => k d
  | some (.val (.int _ i)) => br (decide (0 ≤ i ∧ i ≤ y)) (k i.toNat) False
  | some _ => False

theorem boundK_eq (y d : Nat) (v : Option AV) (k : Nat → Prop) : boundK y d v k = (boundD d y v).bindP k := by
  unfold boundK
  split
  · rfl
  · simp only [boundD, boundA, br_ite]; split <;> rfl
  · rename_i v h1
    simp only [boundD]
    unfold boundA
    split
    · rename_i i; exact absurd rfl (h1 _ i)
    · rfl

def getK (cells : List AV) (off n : Nat) (k : List AV → Prop) : Prop := br (decide (((cells.drop off).take n).length = n)) (k ((cells.drop off).take n)) False

theorem getK_eq (cells : List AV) (off n : Nat) (k : List AV → Prop) : getK cells off n k = (getCells cells off n).bindP k := by
  simp only [getK, getCells, br_ite]; split <;> rfl

def loadK (t : TypeId) (cells : List AV) (off : Nat) (k : AV → Prop) : Prop :=
  match aggT E.P t, szOf E.P t with
  | some true, some n => getK cells off n fun cs => k (.agg cs)
  | some false, some _ => match cells[off]? with
    | some v => k v
    | none => False
  | _, _ => False

theorem loadK_eq (t : TypeId) (cells : List AV) (off : Nat) (k : AV → Prop) : loadK E t cells off k = (loadA E.P t cells off).bindP k := by
  unfold loadK loadA
  split
  · rename_i n h1 h2
    rw [getK_eq]
    simp only [h1, h2]
    cases getCells cells off n <;> rfl
  · rename_i n h1 h2
    simp only [h1, h2]
    cases cells[off]? <;> rfl
  · rename_i h1 h2
    split
    · rename_i h3 h4; exact absurd h4 (h1 _ h3)
    · rename_i h3 h4; exact absurd h4 (h2 _ h3)
    · rfl

def contentsK (rows : Rows) (esz : Nat) (v : AV) (k : List AV → Nat → List Nat → Prop) : Prop := match v with
  | .nils => k [] 0 []
  | .ext cs n => br (decide (cs.length = n * esz)) (k cs n []) False
  | .sl id off n z => match rows id with
    | some r => br (decide (r.live ∧ (n = 0 ∨ z = esz))) (getK r.cells off (n * esz) fun cs => k cs n [id]) False
    | none => False
  | .val (.string s) => if esz = 1 then k (s.data.toList.map fun b => .val (.int .u8 b.toNat)) s.size [] else False
  | _ => False

theorem contentsK_eq (rows : Rows) (esz : Nat) (v : AV) (k : List AV → Nat → List Nat → Prop) : contentsK rows esz v k = (contents rows esz v).bindP fun p => k p.1 p.2.1 p.2.2 := by
  unfold contentsK contents
  split
  · rfl
  · simp only [br_ite]; split <;> rfl
  · rename_i id off n z
    simp only
    generalize rows id = q
    cases q with
    | none => rfl
    | some r =>
      simp only [br_ite, getK_eq]
      split
      · cases getCells r.cells off (n * esz) <;> rfl
      · rfl
  · split <;> rfl
  · rename_i h1 h2 h3 h4
    split <;> first | rfl | exact absurd rfl h1 | exact absurd rfl (h2 _ _) | exact absurd rfl (h3 _ _ _ _) | exact absurd rfl (h4 _) | (exfalso; first | exact h1 rfl | exact h2 _ _ rfl | exact h3 _ _ _ _ rfl | exact h4 _ rfl)

end
end Go.AI

/-
  The machine of values, told what to do next: operations, regions, code.
-/
set_option linter.unusedVariables false
namespace Go.AI

section
variable (E : Env)

/-- What to do with an effect: its value, rows turned, rows made, rows asked. -/
abbrev EK := AV → List (Nat × Row) → List Row → List Nat → Prop

/-- An effect, its value laid open. -/
def eff (v : AV) (k : EK) : Prop := see v fun v => k v [] [] []

def appendK (e : TypeId) (rows : Rows) (next : Nat) (s x : AV) (k : EK) : Prop :=
  match szOf E.P e, bytesOf E.P e, zeroOf E.P e with
  | some z, some by_, some zs =>
    if zs.length ≠ z ∨ z = 0 ∨ by_ = 0 then False else
    contentsK rows z x fun cs n us =>
      match s with
      | .nils => br (decide (n * by_ ≤ 140737488355328)) (br (decide (n = 0)) (k (.nils) [] [] us) (k (.sl next 0 n z) [] [⟨cs, .is e, true⟩] us)) False
      | .sl id off len z' =>
        match rows id with
        | some r =>
          br (decide (r.live ∧ (r.ty = .nil ∨ z' = z) ∧ off + len * z ≤ r.cells.length ∧ (len + n) * by_ ≤ 140737488355328))
            (br (decide (n = 0)) (k (.sl id off len z) [] [] (id :: us))
            (br (decide (off + (len + n) * z ≤ r.cells.length))
              (k (.sl id off (len + n) z) [(id, { r with cells := setCells r.cells (off + len * z) cs })] [] (id :: us))
              (br (decide (off = 0)) (k (.sl next 0 (len + n) z) [(id, { r with live := false })] [⟨((r.cells.drop off).take (len * z)) ++ cs, r.ty.grow e, true⟩] (id :: us)) False)))
            False
        | none => False
      | _ => False
  | _, _, _ => False

def appendZK (e : TypeId) (rows : Rows) (next : Nat) (s : AV) (n : Int) (k : EK) : Prop :=
  match szOf E.P e, bytesOf E.P e, zeroOf E.P e with
  | some z, some by_, some zs =>
    br (decide (0 < n ∧ n ≤ 9223372036854775807 ∧ n.toNat * by_ ≤ 140737488355328 ∧ zs.length = z ∧ z ≠ 0 ∧ by_ ≠ 0))
      (match s with
      | .nils => k (.sl next 0 n.toNat z) [] [⟨(List.replicate n.toNat zs).flatten, .is e, true⟩] []
      | .sl id _ 0 _ => match rows id with
        | some r => br (decide (r.live ∧ r.ty = .nil)) (k (.sl next 0 n.toNat z) [] [⟨(List.replicate n.toNat zs).flatten, .is e, true⟩] [id]) False
        | none => False
      | _ => False) False
  | _, _, _ => False

def copyK (e : TypeId) (rows : Rows) (d s : AV) (k : EK) : Prop :=
  match szOf E.P e with
  | some z => contentsK rows z s fun cs n us => match d with
      | .sl id off len z' => match rows id with
        | some r => br (decide (r.live ∧ (len = 0 ∨ z' = z) ∧ off + len * z ≤ r.cells.length))
            (k (.val (.int .i64 (min n len : Nat))) [(id, { r with cells := setCells r.cells off (cs.take (min n len * z)) })] [] (id :: us)) False
        | none => False
      | _ => False
  | none => False

def builtinK (b : Builtin) (argTypes : Array TypeId) (args : List AV) (rows : Rows) (next : Nat) (k : EK) : Prop :=
  match b, args with
  | .append, [s, x] => match argTypes.toList with
    | [t, tx] => match elemT E.P t, E.P.underlying tx with
      | some e, some (.slice _) => match x with
        | .val _ => False
        | _ => appendK E e rows next s x k
      | some e, some .string => match x with
        | .val (.string _) => appendK E e rows next s x k
        | _ => False
      | some e, some (.int _) => match x with
        | .val (.int _ n) => appendZK E e rows next s n k
        | _ => False
      | _, _ => False
    | _ => False
  | .copy, [d, s] => match argTypes[0]? with
    | some t => match elemT E.P t with
      | some e => copyK E e rows d s k
      | none => False
    | none => False
  | .max, [.val (.int i a), .val (.int i' b)] => if i = i' then br (decide (b > a)) (eff (.val (.int i b)) k) (eff (.val (.int i a)) k) else False
  | .min, [.val (.int i a), .val (.int i' b)] => if i = i' then br (decide (b < a)) (eff (.val (.int i b)) k) (eff (.val (.int i a)) k) else False
  | b, args => match builtinA E b argTypes args rows next with
    | some ⟨v, u, n, us⟩ => k v u n us
    | none => False

/-- A call: some answer that is right for it. -/
def callK (f : FuncId) (args : List AV) (rows : Rows) (next : Nat) (k : EK) : Prop :=
  match E.P.funcs[f]? with
  | some fn => if fn.name == "runtime.NumGoroutine" || fn.body.isNone then False else
    match reach rows 100000 [] (rootsL (E.byRef f) args), reach rows 100000 [] (idsL args) with
    | some ids, some us => match mapO (passV (E.byRef f) rows ids 30) args, rowsAt rows ids with
      | some args', some rs => ∃ r out, FnOk E f args' (rs.map (renR (index ids))) r out ∧
          (((idsL args).all ids.contains || noExt r && out.all fun q => noExtL q.cells) = true ∧ ids.length ≤ out.length) ∧
          see (ren (fun j => if j < ids.length then ids.getD j 0 else next + (j - ids.length)) r) fun v =>
            k v (ids.zip ((out.take ids.length).map (renR fun j => if j < ids.length then ids.getD j 0 else next + (j - ids.length))))
              ((out.drop ids.length).map (renR fun j => if j < ids.length then ids.getD j 0 else next + (j - ids.length))) us
      | _, _ => False
    | _, _ => False
  | none => False

def stepK (o : Op) (t : Nat → AV) (rows : Rows) (next : Nat) (k : EK) : Prop :=
  match o with
  | .pick c a b => match ev E t c, ev E t a, ev E t b with
    | some (.val (.bool q)), some x, some y => br q (eff x k) (eff y k)
    | _, _, _ => False
  | .load ty a => match ev E t a with
    | some (.ptr id off) => match rows id with
      | some r => br r.live (loadK E ty r.cells off fun v => see v fun v => k v [] [] [id]) False
      | none => False
    | some (.eptr cs) => loadK E ty cs 0 fun v => eff v k
    | _ => False
  | .store ty a x => match ev E t a, ev E t x, szOf E.P ty with
    | some (.ptr id off), some v, some n => match rows id with
      | some r => br (decide (r.live ∧ (cellsOf v).length = n ∧ off + n ≤ r.cells.length ∧ (cellsOf v).all one))
          (k (.tup []) [(id, { r with cells := setCells r.cells off (deNilL next (cellsOf v)).1 })] ((deNilL next (cellsOf v)).2) [id]) False
      | none => False
    | _, _, _ => False
  | .binOp op ty x y _ => match ev E t x, ev E t y with
    | some a, some b => binK E op ty a b fun v => eff v k
    | _, _ => False
  | .slice ty x lo hi mx => match mx with
    | some _ => False
    | none => match ev E t x, evO E t lo, evO E t hi with
      | some v, some lo, some hi =>
        match E.P.underlying ty, v with
        | some .string, .val (.string s) => boundK s.size s.size hi fun h => boundK h 0 lo fun l => k (.val (.string (s.extract l h))) [] [] []
        | some (.slice e), .nils => match szOf E.P e with
          | some _ => boundK 0 0 hi fun _ => boundK 0 0 lo fun _ => k (.nils) [] [] []
          | none => False
        | some (.slice e), .ext cs n => match szOf E.P e with
          | some z => boundK n n hi fun h => boundK h 0 lo fun l => k (.ext ((cs.drop (l * z)).take ((h - l) * z)) (h - l)) [] [] []
          | _ => False
        | some (.slice e), .sl id off n z' => match szOf E.P e, rows id with
          | some z, some r => br (decide (r.live ∧ (r.ty = .nil ∨ z' = z) ∧ z ≠ 0))
              (boundK (max n ((r.cells.length - off) / z)) n hi fun h => boundK h 0 lo fun l => k (.sl id (off + l * z) (h - l) z) [] [] [id]) False
          | _, _ => False
        | some (.array len e), .ptr id off => match szOf E.P e, rows id with
          | some z, some r => br (decide (r.live ∧ r.cells.length = off + len * z ∧ z ≠ 0))
              (boundK len len hi fun h => boundK h 0 lo fun l => k (.sl id (off + l * z) (h - l) z) [] [] [id]) False
          | _, _ => False
        | _, _ => False
      | _, _, _ => False
  | .indexAddr ty x i => match ev E t i, ev E t x with
    | some (.val (.int _ j)), some v => match E.P.underlying ty, v with
      | some (.slice e), .sl id off n z' => match szOf E.P e with
        | some z => br (decide (0 ≤ j ∧ j < n ∧ z' = z)) (k (.ptr id (off + j.toNat * z)) [] [] []) False
        | none => False
      | some (.slice e), .ext cs n => match szOf E.P e with
        | some z => br (decide (0 ≤ j ∧ j < n)) (k (.eptr (cs.drop (j.toNat * z))) [] [] []) False
        | none => False
      | some (.array len e), .ptr id off => match szOf E.P e with
        | some z => br (decide (0 ≤ j ∧ j < len)) (k (.ptr id (off + j.toNat * z)) [] [] []) False
        | none => False
      | some (.array len e), .eptr cs => match szOf E.P e with
        | some z => br (decide (0 ≤ j ∧ j < len)) (k (.eptr (cs.drop (j.toNat * z))) [] [] []) False
        | none => False
      | _, _ => False
    | _, _ => False
  | .index ty x i => match ev E t i, ev E t x with
    | some (.val (.int _ j)), some v => match E.P.underlying ty, v with
      | some (.array len e), .agg cs => match szOf E.P e with
        | some z => br (decide (0 ≤ j ∧ j < len)) (match partA E.P e cs (j.toNat * z) with
            | some w => eff w k
            | none => False) False
        | none => False
      | some .string, .val (.string s) => br (decide (0 ≤ j)) (match s.data.toList[j.toNat]? with
          | some b => k (.val (.int .u8 b.toNat)) [] [] []
          | none => False) False
      | _, _ => False
    | _, _ => False
  | .makeSlice ty l c => match elemT E.P ty, ev E t l, ev E t c with
    | some e, some (.val (.int _ a)), some (.val (.int _ b)) => match bytesOf E.P e, szOf E.P e, zeroOf E.P e with
      | some by_, some n, some z =>
        br (decide (0 ≤ a ∧ a ≤ b ∧ b ≤ 9223372036854775807 ∧ by_ * b ≤ 140737488355328 ∧ z.length = n ∧ n ≠ 0 ∧ plainL z = true))
          (k (.sl next 0 a.toNat n) [] [⟨(List.replicate a.toNat z).flatten, .is e, true⟩] []) False
      | _, _, _ => False
    | _, _, _ => False
  | .call c => match evs E t c.args.toList with
    | some args => match c.callee with
      | .builtin b => builtinK E b c.argTypes args rows next k
      | .value f => match ev E t f with
        | some (.fn g caps) => callK E g (args ++ caps) rows next k
        | _ => False
      | _ => False
    | none => False
  | o => match stepOp E (fun _ => none) o t rows next with
    | some ⟨v, u, n, us⟩ => see v fun v => k v u n us
    | none => False

/-- Rows behind an operation. -/
def after (rows : List Row) (u : List (Nat × Row)) (n : List Row) (k : List Row → Prop) : Prop := match u, n with
  | [], [] => k rows
  | [(i, r)], [] => k (rows.set i r)
  | u, n => k (u.foldl (fun rs p => rs.set p.1 p.2) rows ++ n)

/-- What to do behind a region, behind code. -/
abbrev SK := (Nat → AV) → List Row → List Ev → Prop
abbrev XK := X → (Nat → AV) → List Row → Prop

/-- One operation, then the rest ('ih'). -/
def runStep (nt : Nat) (ops : Array Oper) (o : Oper) (ih : (Nat → AV) → List Row → SK → Prop) : (Nat → AV) → List Row → SK → Prop := fun t rows k =>
  if dstOk nt o.dst = false then False else
    let run : Unit → Prop := fun _ => stepK E o.op t (fun i => rows[i]?) rows.length fun v u n us => after rows u n fun rows' => ih (putA t o.dst v) rows' fun t' rows' evs => k t' rows' (evOf rows.length ⟨v, u, n, us⟩ :: evs)
    let skip : Unit → Prop := fun _ => ih (putA t o.dst (.tup [])) rows fun t' rows' evs => k t' rows' (⟨[], []⟩ :: evs)
    match o.guard with
    | none => run ()
    | some (j, want) => match (ops[j]?).bind (·.dst) with
      | some d => match t d with
        | .val (.bool b) => match want with
          | true => br b (run ()) (skip ())
          | false => br b (skip ()) (run ())
        | .junk => False
        | _ => skip ()
      | none => skip ()

/-- By the recursor itself: the kernel then meets the terms that the elaborator met. -/
noncomputable def runK (nt : Nat) (ops : Array Oper) (l : List Oper) : (Nat → AV) → List Row → SK → Prop :=
  List.rec (motive := fun _ => (Nat → AV) → List Row → SK → Prop) (fun t rows k => k t rows []) (fun o _ ih => runStep E nt ops o ih) l
theorem runK_nil (nt : Nat) (ops : Array Oper) (t : Nat → AV) (rows : List Row) (k : SK) : runK E nt ops [] t rows k = k t rows [] := rfl
theorem runK_cons (nt : Nat) (ops : Array Oper) (o : Oper) (os : List Oper) (t : Nat → AV) (rows : List Row) (k : SK) : runK E nt ops (o :: os) t rows k = runStep E nt ops o (runK E nt ops os) t rows k := rfl

noncomputable def execK (k0 nt : Nat) (c : Code) : (Nat → AV) → List Row → XK → Prop :=
  Code.rec (motive := fun _ => (Nat → AV) → List Row → XK → Prop)
    (skip := fun t rows k => k .normal t rows)
    (ret := fun t rows k => k .ret t rows)
    (exit := fun id t rows k => k (.exit id) t rows)
    (region := fun _ ops draw t rows k => runK E nt ops ops.toList t rows fun t' rows' evs => match draw with
      | false => k .normal t' rows'
      | true => br (apartOk ops evs) (k .normal t' rows') False)
    (seq := fun _ _ iha ihb t rows k => iha t rows fun x t' rows' => match x with
      | .normal => ihb t' rows' k
      | x => k x t' rows')
    (cond := fun c _ _ iha ihb t rows k => match ev E t c with
      | some (.val (.bool q)) => br q (iha t rows k) (ihb t rows k)
      | _ => False)
    (block := fun id _ ih t rows k => ih t rows fun x t' rows' => match x with
      | .exit i => if i = id then k .normal t' rows' else k (.exit i) t' rows'
      | x => k x t' rows')
    (loop := fun c _ t rows k => ∃ x t' rows', LoopOk E k0 nt c ⟨t, rows⟩ x ⟨t', rows'⟩ ∧ k x t' rows')
    (rangeFunc := fun _ _ _ _ _ _ _ _ _ => False)
    (scope := fun _ _ _ _ _ => False)
    (label := fun _ _ _ _ => False)
    (goto := fun _ _ _ _ => False)
    (refuse := fun _ _ _ _ => False) c
section
variable (k0 nt : Nat) (t : Nat → AV) (rows : List Row) (k : XK)
theorem execK_skip : execK E k0 nt .skip t rows k = k .normal t rows := rfl
theorem execK_ret : execK E k0 nt .ret t rows k = k .ret t rows := rfl
theorem execK_exit (id : Nat) : execK E k0 nt (.exit id) t rows k = k (.exit id) t rows := rfl
theorem execK_region (id : Nat) (ops : Array Oper) (draw : Bool) : execK E k0 nt (.region id ops draw) t rows k = (runK E nt ops ops.toList t rows fun t' rows' evs => match draw with
      | false => k .normal t' rows'
      | true => br (apartOk ops evs) (k .normal t' rows') False) := rfl
theorem execK_seq (a b : Code) : execK E k0 nt (.seq a b) t rows k = execK E k0 nt a t rows fun x t' rows' => match x with
      | .normal => execK E k0 nt b t' rows' k
      | x => k x t' rows' := rfl
theorem execK_cond (c : Operand) (a b : Code) : execK E k0 nt (.cond c a b) t rows k = match ev E t c with
      | some (.val (.bool q)) => br q (execK E k0 nt a t rows k) (execK E k0 nt b t rows k)
      | _ => False := rfl
theorem execK_block (id : Nat) (c : Code) : execK E k0 nt (.block id c) t rows k = execK E k0 nt c t rows fun x t' rows' => match x with
      | .exit i => if i = id then k .normal t' rows' else k (.exit i) t' rows'
      | x => k x t' rows' := rfl
theorem execK_loop (c : Code) : execK E k0 nt (.loop c) t rows k = ∃ x t' rows', LoopOk E k0 nt c ⟨t, rows⟩ x ⟨t', rows'⟩ ∧ k x t' rows' := rfl
end

/-- A function: from its arguments to its result. -/
noncomputable def fnK (f : FuncId) (args : List AV) (rows : List Row) (k : AV → List Row → Prop) : Prop :=
  match E.P.funcs[f]? with
    | some fn => match fn.body with
      | some c => if args.length ≤ fn.ntmps then execK E rows.length fn.ntmps c (start args) rows fun x t' rows' => match x with
          | .exit _ => False
          | _ => match resultsA E ⟨t', rows'⟩ fn.results.toList with
            | some [v] => (leave rows.length v fun i => rows'[i]?).bindP fun p => k p.1 p.2
            | some vs => (leave rows.length (.tup vs) fun i => rows'[i]?).bindP fun p => k p.1 p.2
            | none => False
        else False
      | none => False
    | none => False

/-- A loop: one round, then the rest. -/
noncomputable def loopK (k0 nt : Nat) (c : Code) (t : Nat → AV) (rows : List Row) (x : X) (s' : St) : Prop := execK E k0 nt c t rows fun y t' rows' => match y with
  | .normal => LoopOk E k0 nt c ⟨t', rows'⟩ x s'
  | y => y = x ∧ ⟨t', rows'⟩ = s'
end
end Go.AI

/-
  Both machines are one.
-/
set_option linter.unusedVariables false
set_option linter.unusedSimpArgs false
namespace Go.AI

section
variable (E : Env)

def EK.of (k : EK) (e : Eff) : Prop := k e.val e.upd e.new e.use

theorem eff_eq (v : AV) (k : EK) : eff v k = k v [] [] [] := by unfold eff; rw [see_eq]

theorem appendK_eq (e : TypeId) (rows : Rows) (next : Nat) (s x : AV) (k : EK) : appendK E e rows next s x k = (appendA E e rows next s x).bindP k.of := by
  unfold appendK appendA
  cases szOf E.P e with
  | none => rfl
  | some z =>
    cases bytesOf E.P e with
    | none => rfl
    | some by_ =>
      cases zeroOf E.P e with
      | none => rfl
      | some zs =>
        simp only
        split
        · rfl
        · rw [contentsK_eq]
          cases contents rows z x with
          | none => rfl
          | some p =>
            obtain ⟨cs, n, us⟩ := p
            simp only [Option.bindP_some]
            cases s <;> try rfl
            · simp only [br_ite]
              split
              · split <;> rfl
              · rfl
            · rename_i id off len z'
              simp only
              cases rows id with
              | none => rfl
              | some r =>
                simp only [br_ite]
                split
                · split
                  · rfl
                  · split
                    · rfl
                    · split <;> rfl
                · rfl

theorem appendZK_eq (e : TypeId) (rows : Rows) (next : Nat) (s : AV) (n : Int) (k : EK) : appendZK E e rows next s n k = (appendZ E e rows next s n).bindP k.of := by
  unfold appendZK appendZ
  cases szOf E.P e with
  | none => rfl
  | some z =>
    cases bytesOf E.P e with
    | none => rfl
    | some by_ =>
      cases zeroOf E.P e with
      | none => rfl
      | some zs =>
        simp only [br_ite]
        split
        · cases s <;> try rfl
          rename_i id off len z'
          cases len with
          | zero =>
            simp only
            cases rows id with
            | none => rfl
            | some r => simp only [br_ite]; split <;> rfl
          | succ len => rfl
        · rfl

theorem copyK_eq (e : TypeId) (rows : Rows) (d s : AV) (k : EK) : copyK E e rows d s k = (copyA E e rows d s).bindP k.of := by
  unfold copyK copyA
  cases szOf E.P e with
  | none => rfl
  | some z =>
    simp only
    rw [contentsK_eq]
    cases contents rows z s with
    | none => rfl
    | some p =>
      obtain ⟨cs, n, us⟩ := p
      simp only [Option.bindP_some]
      cases d <;> try rfl
      rename_i id off len z'
      simp only
      cases rows id with
      | none => rfl
      | some r => simp only [br_ite]; split <;> rfl

theorem builtinK_eq (b : Builtin) (ats : Array TypeId) (args : List AV) (rows : Rows) (next : Nat) (k : EK) : builtinK E b ats args rows next k = (builtinA E b ats args rows next).bindP k.of := by
  unfold builtinK
  split
  · simp only [builtinA]
    cases ats.toList with
    | nil => rfl
    | cons t l =>
      cases l with
      | nil => rfl
      | cons tx l =>
        cases l with
        | cons _ _ => rfl
        | nil =>
          simp only
          cases elemT E.P t with
          | none => rfl
          | some e =>
            cases E.P.underlying tx with
            | none => rfl
            | some u =>
              rename_i x
              cases u <;> try rfl
              · cases x <;> try rfl
                rename_i v
                cases v <;> try rfl
                exact appendZK_eq E _ _ _ _ _ k
              · cases x <;> try rfl
                rename_i v
                cases v <;> try rfl
                exact appendK_eq E _ _ _ _ _ k
              · cases x <;> first | rfl | exact appendK_eq E _ _ _ _ _ k
  · simp only [builtinA]
    cases ats[0]? with
    | none => rfl
    | some t =>
      simp only
      cases elemT E.P t with
      | none => rfl
      | some e => exact copyK_eq E _ _ _ _ k
  · simp only [builtinA]
    split
    · simp only [br_ite, eff_eq]; split <;> rfl
    · rfl
  · simp only [builtinA]
    split
    · simp only [br_ite, eff_eq]; split <;> rfl
    · rfl
  · cases builtinA E _ ats _ rows next <;> rfl

theorem stepK_eq (o : Op) (hno : ∀ c f, o = .call c → c.callee ≠ .value f) (t : Nat → AV) (rows : Rows) (next : Nat) (k : EK) : stepK E o t rows next k = (stepOp E (fun _ => none) o t rows next).bindP k.of := by
  have hdef : ∀ o : Op, (match stepOp E (fun _ => none) o t rows next with
    | some ⟨v, u, n, us⟩ => see v fun v => k v u n us
    | none => False) = (stepOp E (fun _ => none) o t rows next).bindP k.of := fun o => by
      cases stepOp E (fun _ => none) o t rows next with
      | none => rfl
      | some e => simp only [see_eq]; rfl
  cases o
  case pick c a b =>
    simp only [stepK, stepOp]
    cases ev E t c with
    | none => rfl
    | some q =>
      cases ev E t a with
      | none => cases q <;> try rfl
                rename_i v; cases v <;> rfl
      | some x =>
        cases ev E t b with
        | none => cases q <;> try rfl
                  rename_i v; cases v <;> rfl
        | some y =>
          cases q <;> try rfl
          rename_i v
          cases v <;> try rfl
          rename_i b
          cases b <;> simp only [br, eff_eq] <;> rfl
  case load ty a =>
    simp only [stepK, stepOp]
    cases ev E t a with
    | none => rfl
    | some v =>
      cases v <;> try rfl
      · rename_i id off
        simp only
        cases rows id with
        | none => rfl
        | some r =>
          simp only [loadK_eq, see_eq]
          cases r.live with
          | false => rfl
          | true => simp only [br, if_true]; cases loadA E.P ty r.cells off <;> rfl
      · simp only [loadK_eq, eff_eq]
        cases loadA E.P ty _ 0 <;> rfl
  case store ty a x =>
    simp only [stepK, stepOp]
    cases ev E t a with
    | none => rfl
    | some v =>
      cases v <;> try rfl
      rename_i id off
      cases ev E t x with
      | none => rfl
      | some v =>
        cases szOf E.P ty with
        | none => rfl
        | some n =>
          simp only
          cases rows id with
          | none => rfl
          | some r => simp only [br_ite]; split <;> rfl
  case binOp op ty x y ty' =>
    simp only [stepK, stepOp]
    cases ev E t x with
    | none => rfl
    | some a =>
      cases ev E t y with
      | none => rfl
      | some b =>
        simp only [binK_eq, eff_eq]
        cases binA E.P op ty a b <;> rfl
  case slice ty x lo hi mx =>
    simp only [stepK, stepOp]
    cases mx with
    | some _ => rfl
    | none =>
      simp only
      cases ev E t x with
      | none => rfl
      | some v =>
        cases evO E t lo with
        | none => rfl
        | some lo =>
          cases evO E t hi with
          | none => rfl
          | some hi =>
            simp only
            cases E.P.underlying ty with
            | none => cases v <;> rfl
            | some u =>
              cases u <;> cases v <;> try rfl
              all_goals (try simp only [boundK_eq, br_ite])
              · rename_i v; cases v <;> try rfl
                rename_i s
                simp only [boundK_eq]
                cases boundD s.size s.size hi with
                | none => rfl
                | some h => simp only [Option.bindP_some]; cases boundD 0 h lo <;> rfl
              · rename_i e
                cases szOf E.P e with
                | none => rfl
                | some z =>
                  simp only
                  cases boundD 0 0 hi with
                  | none => cases boundD 0 0 lo <;> rfl
                  | some h => simp only [Option.bindP_some]; cases boundD 0 0 lo <;> rfl
              · rename_i e id off n z'
                cases szOf E.P e with
                | none => rfl
                | some z =>
                  cases rows id with
                  | none => rfl
                  | some r =>
                    simp only [br_ite]
                    split
                    · cases boundD n (max n ((r.cells.length - off) / z)) hi with
                      | none => rfl
                      | some h => simp only [Option.bindP_some]; cases boundD 0 h lo <;> rfl
                    · rfl
              · rename_i e cs n
                cases szOf E.P e with
                | none => rfl
                | some z =>
                  simp only
                  cases boundD n n hi with
                  | none => rfl
                  | some h => simp only [Option.bindP_some]; cases boundD 0 h lo <;> rfl
              · rename_i len e id off
                cases szOf E.P e with
                | none => rfl
                | some z =>
                  cases rows id with
                  | none => rfl
                  | some r =>
                    simp only [br_ite]
                    split
                    · cases boundD len len hi with
                      | none => rfl
                      | some h => simp only [Option.bindP_some]; cases boundD 0 h lo <;> rfl
                    · rfl
  case indexAddr ty x i =>
    simp only [stepK, stepOp]
    cases ev E t i with
    | none => rfl
    | some j =>
      cases j <;> try rfl
      rename_i j
      cases j <;> try rfl
      cases ev E t x with
      | none => rfl
      | some v =>
        simp only
        cases E.P.underlying ty with
        | none => cases v <;> rfl
        | some u =>
          cases u <;> cases v <;> try rfl
          · rename_i e id off n z'
            simp only
            cases szOf E.P e with
            | none => rfl
            | some z => simp only [br_ite]; split <;> rfl
          · rename_i e cs n
            simp only
            cases szOf E.P e with
            | none => rfl
            | some z => simp only [br_ite]; split <;> rfl
          · rename_i len e id off
            simp only
            cases szOf E.P e with
            | none => rfl
            | some z => simp only [br_ite]; split <;> rfl
          · rename_i len e cs
            simp only
            cases szOf E.P e with
            | none => rfl
            | some z => simp only [br_ite]; split <;> rfl
  case index ty x i =>
    simp only [stepK, stepOp]
    cases ev E t i with
    | none => rfl
    | some j =>
      cases j <;> try rfl
      rename_i j
      cases j <;> try rfl
      rename_i kd j
      cases ev E t x with
      | none => rfl
      | some v =>
        simp only
        cases E.P.underlying ty with
        | none => cases v <;> rfl
        | some u =>
          cases u <;> cases v <;> try rfl
          · rename_i v
            cases v <;> try rfl
            rename_i s
            simp only [br_ite]
            split
            · cases s.data.toList[j.toNat]? <;> rfl
            · rfl
          · rename_i len e cs
            simp only
            cases szOf E.P e with
            | none => rfl
            | some z =>
              simp only [br_ite, eff_eq]
              split
              · cases partA E.P e cs (j.toNat * z) <;> rfl
              · rfl
  case makeSlice ty l c =>
    simp only [stepK, stepOp]
    cases elemT E.P ty with
    | none => rfl
    | some e =>
      cases ev E t l with
      | none => rfl
      | some a =>
        cases a <;> try rfl
        rename_i a
        cases a <;> try rfl
        cases ev E t c with
        | none => rfl
        | some b =>
          cases b <;> try rfl
          rename_i b
          cases b <;> try rfl
          simp only
          cases bytesOf E.P e with
          | none => rfl
          | some by_ =>
            cases szOf E.P e with
            | none => rfl
            | some n =>
              cases zeroOf E.P e with
              | none => rfl
              | some z => simp only [br_ite]; split <;> rfl
  case call c =>
    simp only [stepK, stepOp]
    cases evs E t c.args.toList with
    | none => rfl
    | some args =>
      simp only
      cases hc : c.callee with
      | builtin b => exact builtinK_eq E _ _ _ _ _ k
      | value f => exact absurd hc (hno c f rfl)
      | _ => rfl
  all_goals first | rfl | exact hdef _ | (refine Eq.trans ?_ (hdef _); simp only [stepK]; done) | (simp only [stepK, stepOp]; rfl)

theorem after_eq (rows : List Row) (u : List (Nat × Row)) (n : List Row) (k : List Row → Prop) : after rows u n k = k (u.foldl (fun rs p => rs.set p.1 p.2) rows ++ n) := by
  unfold after
  split
  · simp
  · simp
  · rfl

end
end Go.AI

/-
  The predicate is right: what it says of a function is the function's contract.
-/
set_option linter.unusedVariables false
set_option linter.unusedSimpArgs false
namespace Go.AI

/-- Code comes to its end as said. -/
def CodeOk (E : Env) (k0 nt : Nat) (c : Code) (s : St) (x : X) (s' : St) : Prop :=
  ∀ (S O : Nat → Prop) (ρ0 : Map) (w0 : World), (∀ i, k0 ≤ i → ρ0 i = none) → Fr S O w0 → GlobOk E S w0 → ∀ a w, CInv S O ρ0 w0 nt s a w → c.wp E.P (Post S O ρ0 w0 nt x s') a w

section
variable {E : Env}

open Classical in
theorem callK_spec (hpr : ∀ f, E.prim f = none) {f : FuncId} {args : List AV} {rows : Rows} {next : Nat} {k : EK} (h : callK E f args rows next k) : ∃ rec, FnRec E rec ∧ ∃ e, callA E rec f args rows next = some e ∧ k.of e := by
  unfold callK at h
  split at h
  case h_2 => exact h.elim
  rename_i fn hfn
  split at h
  case isTrue => exact h.elim
  rename_i hnm
  split at h
  case h_2 => exact h.elim
  rename_i ids us hids hus
  split at h
  case h_2 => exact h.elim
  rename_i args' rs hargs hrs
  obtain ⟨r, out, hok, hc, hk⟩ := h
  rw [see_eq] at hk
  refine ⟨fun task => if task = .fn f args' (rs.map (renR (index ids))) then some (.fn r out) else none, ?_, ?_⟩
  · intro g as rws r' out' hh
    simp only at hh
    split at hh
    · rename_i he
      cases he
      cases hh
      exact hok
    · cases hh
  · refine ⟨⟨_, _, _, _⟩, ?_, hk⟩
    simp only [callA, hpr f, hfn, if_neg hnm, hids, hus, hargs, hrs, if_true]
    rw [if_pos hc]
    rfl

theorem stepK_spec (hpr : ∀ f, E.prim f = none) {o : Op} {t : Nat → AV} {rows : Rows} {next : Nat} {k : EK} (h : stepK E o t rows next k) : ∃ e, By E o t rows next e ∧ k.of e := by
  by_cases hc : ∃ c f, o = .call c ∧ c.callee = .value f
  · obtain ⟨c, f, rfl, hf⟩ := hc
    simp only [stepK, hf] at h
    split at h
    case h_2 => exact h.elim
    rename_i args hargs
    split at h
    case h_2 => exact h.elim
    rename_i g caps hg
    obtain ⟨rec, h1, e, h2, h3⟩ := callK_spec hpr h
    exact ⟨e, ⟨rec, h1, by simp only [stepOp, hargs, hf, hg]; exact h2⟩, h3⟩
  · rw [stepK_eq E o (fun c f h1 h2 => hc ⟨c, f, h1, h2⟩)] at h
    obtain ⟨e, h1, h2⟩ := Option.bindP_elim h
    exact ⟨e, ⟨fun _ => none, (fun f args rows r out h => by cases h), h1⟩, h2⟩

theorem guardK_eq (ops : Array Oper) (t : Nat → AV) (dst : Option Tmp) (op : Op) (ty : TypeId) (pos : String) (af : Array Edge) (guard : Option (Nat × Bool)) (run skip : Prop)
    (h : match guard with
    | none => run
    | some (j, want) => match (ops[j]?).bind (·.dst) with
      | some d => match t d with
        | .val (.bool b) => match want with
          | true => br b run skip
          | false => br b skip run
        | .junk => False
        | _ => skip
      | none => skip) : sureG ops ⟨dst, op, ty, pos, af, guard⟩ t = true ∧ ((wantedA ops ⟨dst, op, ty, pos, af, guard⟩ t = true ∧ run) ∨ (wantedA ops ⟨dst, op, ty, pos, af, guard⟩ t = false ∧ skip)) := by
  unfold sureG wantedA
  cases guard with
  | none => exact ⟨rfl, .inl ⟨rfl, h⟩⟩
  | some g =>
    obtain ⟨j, want⟩ := g
    simp only at h ⊢
    generalize (ops[j]?).bind (·.dst) = q at h ⊢
    cases q with
    | none => exact ⟨rfl, .inr ⟨rfl, h⟩⟩
    | some d =>
      simp only at h ⊢
      generalize t d = v at h ⊢
      cases v
      case junk => exact h.elim
      case val v =>
        cases v
        case bool b =>
          cases b <;> cases want
          · exact ⟨rfl, .inl ⟨rfl, h⟩⟩
          · exact ⟨rfl, .inr ⟨rfl, h⟩⟩
          · exact ⟨rfl, .inr ⟨rfl, h⟩⟩
          · exact ⟨rfl, .inl ⟨rfl, h⟩⟩
        all_goals exact ⟨rfl, .inr ⟨rfl, h⟩⟩
      all_goals exact ⟨rfl, .inr ⟨rfl, h⟩⟩

theorem runK_spec (hpr : ∀ f, E.prim f = none) {nt : Nat} {ops : Array Oper} : ∀ (l : List Oper) (t : Nat → AV) (rows : List Row) (k : SK), runK E nt ops l t rows k →
    ∃ (T : Nat → Nat → AV) (Rw : Nat → List Row) (ef : Nat → Eff) (evs : List Ev), T 0 = t ∧ Rw 0 = rows ∧ evs.length = l.length ∧
      (∀ (i : Nat) (o : Oper), l[i]? = some o → Took E nt ops o (T i) (Rw i) (ef i) ∧ T (i + 1) = putA (T i) o.dst (ef i).val ∧ Rw (i + 1) = applyE (Rw i) (ef i) ∧ evs[i]? = some (evOf (Rw i).length (ef i))) ∧
      k (T l.length) (Rw l.length) evs
  | [], t, rows, k, h => ⟨fun _ => t, fun _ => rows, fun _ => ⟨.tup [], [], [], []⟩, [], rfl, rfl, rfl, fun i o ho => by simp at ho, h⟩
  | ⟨dst, op, ty, pos, af, guard⟩ :: os, t, rows, k, h => by
    simp only [runK_cons, runStep] at h
    split at h
    · exact h.elim
    rename_i hd
    have hd' : dstOk nt dst = true := by simpa using hd
    have hg := guardK_eq ops t dst op ty pos af guard _ _ h
    obtain ⟨hsure, hcase⟩ := hg
    have key : ∃ (e : Eff), Took E nt ops ⟨dst, op, ty, pos, af, guard⟩ t rows e ∧ runK E nt ops os (putA t dst e.val) (applyE rows e) fun t' rows' evs => k t' rows' (evOf rows.length e :: evs) := by
      rcases hcase with ⟨hw, hr⟩ | ⟨hw, hr⟩
      · obtain ⟨e, he, hk⟩ := stepK_spec hpr hr
        simp only [EK.of, after_eq] at hk
        exact ⟨e, ⟨hd', hsure, .inl ⟨hw, he⟩⟩, hk⟩
      · refine ⟨⟨.tup [], [], [], []⟩, ⟨hd', hsure, .inr ⟨hw, rfl⟩⟩, ?_⟩
        simpa [applyE, evOf] using hr
    obtain ⟨e, k1, k2⟩ := key
    obtain ⟨T, Rw, ef, evs', g1, g2, g3, g4, g5⟩ := runK_spec hpr os _ _ _ k2
    refine ⟨fun i => match i with | 0 => t | i + 1 => T i, fun i => match i with | 0 => rows | i + 1 => Rw i, fun i => match i with | 0 => e | i + 1 => ef i, evOf rows.length e :: evs', rfl, rfl, by simp [g3], fun i o' ho' => ?_, by simpa using g5⟩
    cases i with
    | zero => simp at ho'; subst ho'; exact ⟨k1, g1, g2, rfl⟩
    | succ i => simpa using g4 i o' (by simpa using ho')

theorem region_ok (hp : PrimOk E) (hm : E.P.follows .mixedOrders = true) {k0 nt : Nat} {id : Nat} {ops : Array Oper} {draw : Bool} {T : Nat → Nat → AV} {Rw : Nat → List Row} {ef : Nat → Eff} {evs : List Ev}
    (g5 : ∀ (i : Nat) (o : Oper), ops.toList[i]? = some o → Took E nt ops o (T i) (Rw i) (ef i) ∧ T (i + 1) = putA (T i) o.dst (ef i).val ∧ Rw (i + 1) = applyE (Rw i) (ef i) ∧ evs[i]? = some (evOf (Rw i).length (ef i)))
    (hdraw : draw = true → apartOk ops evs = true) : CodeOk E k0 nt (.region id ops draw) ⟨T 0, Rw 0⟩ .normal ⟨T ops.size, Rw ops.size⟩ := by
  intro S O ρ0 w0 hk0 hfr hgl a w hin
  have hr : Run E nt ops T Rw ef := ⟨fun i o ho => by
    obtain ⟨k1, k2, k3, _⟩ := g5 i o (by simpa using ho)
    exact ⟨k1, k2, k3⟩⟩
  have hQ : ∀ a' w', Inv S O ρ0 w0 nt (T ops.size) (fun k => (Rw ops.size)[k]?) (fun id => (Rw ops.size).length ≤ id) a' w' → Post S O ρ0 w0 nt .normal ⟨T ops.size, Rw ops.size⟩ .normal a' w' := fun a' w' h => ⟨rfl, h⟩
  cases draw with
  | false =>
    refine wp_region ?_
    have := hr.seq hp hfr hgl (Q := Post S O ρ0 w0 nt .normal ⟨T ops.size, Rw ops.size⟩) hQ ops.size 0 a w (by omega) (by
      have := hr.begin hin
      have e : (fun j : Nat => decide (j < 0)) = fun _ => false := by funext j; simp
      rw [e]; exact this)
    rwa [← List.range_eq_range'] at this
  | true =>
    refine wp_region_any hm ?_
    have hin0 : Inv S O ρ0 w0 nt (T 0) (fun k => (Rw 0)[k]?) (fun id => (Rw 0).length ≤ id) a { w with drawn := w.drawn + 1 } := hin.drew
    have e : (fun j : Nat => (Array.replicate ops.size false).getD j false) = fun _ => false := by
      funext j
      simp only [Array.getD_eq_getD_getElem?, Array.getElem?_replicate]
      split <;> rfl
    refine hr.any hp hfr hgl (evs := evs) (fun i hi => ?_) (hdraw rfl) hQ ops.size _ a _ (by simp) ?_ ?_ ?_
    · obtain ⟨_, _, _, k4⟩ := g5 i ops[i] (by simp)
      exact k4
    · exact Nat.le_trans List.countP_le_length (by simp)
    · rw [e]; intro j o _ hj; cases hj
    · rw [e]; exact hr.begin hin0

theorem execK_spec (hp : PrimOk E) (hpr : ∀ f, E.prim f = none) (hm : E.P.follows .mixedOrders = true) {k0 nt : Nat} : ∀ (c : Code) (t : Nat → AV) (rows : List Row) (k : XK), execK E k0 nt c t rows k →
    ∃ x t' rows', CodeOk E k0 nt c ⟨t, rows⟩ x ⟨t', rows'⟩ ∧ k x t' rows' := by
  intro c
  induction c with
  | skip => intro t rows k h; exact ⟨.normal, t, rows, fun S O ρ0 w0 _ _ _ a w hin => wp_skip ⟨rfl, hin⟩, h⟩
  | ret => intro t rows k h; exact ⟨.ret, t, rows, fun S O ρ0 w0 _ _ _ a w hin => wp_ret ⟨rfl, hin⟩, h⟩
  | exit id => intro t rows k h; exact ⟨.exit id, t, rows, fun S O ρ0 w0 _ _ _ a w hin => wp_exit ⟨rfl, hin⟩, h⟩
  | region id ops draw =>
    intro t rows k h
    simp only [execK_skip, execK_ret, execK_exit, execK_region, execK_seq, execK_cond, execK_block, execK_loop] at h
    obtain ⟨T, Rw, ef, evs, g1, g2, g3, g4, g5⟩ := runK_spec hpr _ _ _ _ h
    rw [Array.length_toList] at g5
    cases draw with
    | false => exact ⟨.normal, _, _, g1 ▸ g2 ▸ region_ok hp hm g4 (fun h => by cases h), g5⟩
    | true =>
      cases hap : apartOk ops evs with
      | false => rw [hap] at g5; exact g5.elim
      | true =>
        rw [hap] at g5
        exact ⟨.normal, _, _, g1 ▸ g2 ▸ region_ok hp hm g4 (fun _ => hap), g5⟩
  | seq c1 c2 ih1 ih2 =>
    intro t rows k h
    simp only [execK_skip, execK_ret, execK_exit, execK_region, execK_seq, execK_cond, execK_block, execK_loop] at h
    obtain ⟨x, t', rows', h1, h2⟩ := ih1 _ _ _ h
    cases x with
    | normal =>
      obtain ⟨y, t2, rows2, h3, h4⟩ := ih2 _ _ _ h2
      refine ⟨y, t2, rows2, fun S O ρ0 w0 hk0 hfr hgl a w hin => wp_seq (wp_mono (h1 S O ρ0 w0 hk0 hfr hgl a w hin) ?_), h4⟩
      rintro e a' w' ⟨rfl, hin'⟩
      exact h3 S O ρ0 w0 hk0 hfr hgl a' w' hin'
    | exit i =>
      refine ⟨.exit i, t', rows', fun S O ρ0 w0 hk0 hfr hgl a w hin => wp_seq (wp_mono (h1 S O ρ0 w0 hk0 hfr hgl a w hin) ?_), h2⟩
      rintro e a' w' ⟨rfl, hin'⟩
      exact ⟨rfl, hin'⟩
    | ret =>
      refine ⟨.ret, t', rows', fun S O ρ0 w0 hk0 hfr hgl a w hin => wp_seq (wp_mono (h1 S O ρ0 w0 hk0 hfr hgl a w hin) ?_), h2⟩
      rintro e a' w' ⟨rfl, hin'⟩
      exact ⟨rfl, hin'⟩
  | cond q c1 c2 ih1 ih2 =>
    intro t rows k h
    simp only [execK_skip, execK_ret, execK_exit, execK_region, execK_seq, execK_cond, execK_block, execK_loop] at h
    split at h
    case h_2 => exact h.elim
    rename_i b hq
    have hv : ∀ (S O : Nat → Prop) (ρ0 : Map) (w0 : World), (∀ i, k0 ≤ i → ρ0 i = none) → Fr S O w0 → GlobOk E S w0 → ∀ a w, CInv S O ρ0 w0 nt ⟨t, rows⟩ a w → a.eval q = .bool b := by
      intro S O ρ0 w0 hk0 hfr hgl a w hin
      obtain ⟨g1, g2, g3, ρ, g4, g5, g6, g7⟩ := hin
      exact (ev_rep g6 (hgl.kp hfr g3) hq).val_inv.1
    cases b with
    | true =>
      obtain ⟨x, t', rows', h1, h2⟩ := ih1 _ _ _ h
      exact ⟨x, t', rows', fun S O ρ0 w0 hk0 hfr hgl a w hin => wp_cond_true (hv S O ρ0 w0 hk0 hfr hgl a w hin) (h1 S O ρ0 w0 hk0 hfr hgl a w hin), h2⟩
    | false =>
      obtain ⟨x, t', rows', h1, h2⟩ := ih2 _ _ _ h
      exact ⟨x, t', rows', fun S O ρ0 w0 hk0 hfr hgl a w hin => wp_cond_false (hv S O ρ0 w0 hk0 hfr hgl a w hin) (h1 S O ρ0 w0 hk0 hfr hgl a w hin), h2⟩
  | block id c ih =>
    intro t rows k h
    simp only [execK_skip, execK_ret, execK_exit, execK_region, execK_seq, execK_cond, execK_block, execK_loop] at h
    obtain ⟨x, t', rows', h1, h2⟩ := ih _ _ _ h
    cases x with
    | normal =>
      refine ⟨.normal, t', rows', fun S O ρ0 w0 hk0 hfr hgl a w hin => wp_block (wp_mono (h1 S O ρ0 w0 hk0 hfr hgl a w hin) ?_), h2⟩
      rintro e a' w' ⟨rfl, hin'⟩
      exact ⟨rfl, hin'⟩
    | ret =>
      refine ⟨.ret, t', rows', fun S O ρ0 w0 hk0 hfr hgl a w hin => wp_block (wp_mono (h1 S O ρ0 w0 hk0 hfr hgl a w hin) ?_), h2⟩
      rintro e a' w' ⟨rfl, hin'⟩
      exact ⟨rfl, hin'⟩
    | exit i =>
      simp only at h2
      by_cases hi : i = id
      · rw [if_pos hi] at h2
        refine ⟨.normal, t', rows', fun S O ρ0 w0 hk0 hfr hgl a w hin => wp_block (wp_mono (h1 S O ρ0 w0 hk0 hfr hgl a w hin) ?_), h2⟩
        rintro e a' w' ⟨rfl, hin'⟩
        simp only [X.out, Exit.inBlock, hi, if_true]
        exact ⟨rfl, hin'⟩
      · rw [if_neg hi] at h2
        refine ⟨.exit i, t', rows', fun S O ρ0 w0 hk0 hfr hgl a w hin => wp_block (wp_mono (h1 S O ρ0 w0 hk0 hfr hgl a w hin) ?_), h2⟩
        rintro e a' w' ⟨rfl, hin'⟩
        simp only [X.out, Exit.inBlock, hi, if_false]
        exact ⟨rfl, hin'⟩
  | loop c ih =>
    intro t rows k h
    simp only [execK_skip, execK_ret, execK_exit, execK_region, execK_seq, execK_cond, execK_block, execK_loop] at h
    obtain ⟨x, t', rows', ⟨n, hn⟩, h2⟩ := h
    exact ⟨x, t', rows', fun S O ρ0 w0 hk0 hfr hgl a w hin => wp_loop_rounds n (hn S O ρ0 w0 hk0 hfr hgl a w hin), h2⟩
  | _ => intro t rows k h; exact (show False from h).elim

theorem loopK_ok (hp : PrimOk E) (hpr : ∀ f, E.prim f = none) (hm : E.P.follows .mixedOrders = true) {k0 nt : Nat} {c : Code} {t : Nat → AV} {rows : List Row} {x : X} {s' : St} (h : loopK E k0 nt c t rows x s') : LoopOk E k0 nt c ⟨t, rows⟩ x s' := by
  obtain ⟨y, t', rows', h1, h2⟩ := execK_spec hp hpr hm _ _ _ _ h
  cases y with
  | normal =>
    obtain ⟨n, hn⟩ := h2
    refine ⟨n + 1, fun S O ρ0 w0 hk0 hfr hgl a w hin => ?_⟩
    rw [rounds_succ]
    refine wp_mono (h1 S O ρ0 w0 hk0 hfr hgl a w hin) ?_
    rintro e a' w' ⟨rfl, hin'⟩
    exact hn S O ρ0 w0 hk0 hfr hgl a' w' hin'
  | exit i =>
    obtain ⟨rfl, rfl⟩ := h2
    refine ⟨1, fun S O ρ0 w0 hk0 hfr hgl a w hin => ?_⟩
    rw [rounds_succ]
    refine wp_mono (h1 S O ρ0 w0 hk0 hfr hgl a w hin) ?_
    rintro e a' w' ⟨rfl, hin'⟩
    exact ⟨rfl, hin'⟩
  | ret =>
    obtain ⟨rfl, rfl⟩ := h2
    refine ⟨1, fun S O ρ0 w0 hk0 hfr hgl a w hin => ?_⟩
    rw [rounds_succ]
    refine wp_mono (h1 S O ρ0 w0 hk0 hfr hgl a w hin) ?_
    rintro e a' w' ⟨rfl, hin'⟩
    exact ⟨rfl, hin'⟩

theorem fn_end {f : FuncId} {fn : Func} {c : Code} (hfn : E.P.funcs[f]? = some fn) (hb : fn.body = some c) {args : List AV} {rows : List Row} {r : AV} {out : List Row} (hlen : args.length ≤ fn.ntmps) {x : X} {s : St}
    (hx : CodeOk E rows.length fn.ntmps c ⟨start args, rows⟩ x s) (hxx : x = .normal ∨ x = .ret)
    (hres : (match resultsA E s fn.results.toList with
            | some [v] => (leave rows.length v fun i => s.rows[i]?).map fun p => Res.fn p.1 p.2
            | some vs => (leave rows.length (.tup vs) fun i => s.rows[i]?).map fun p => Res.fn p.1 p.2
            | none => none) = some (.fn r out)) : FnOk E f args rows r out := by
  intro S O ρ w vals hfr hgl hargs hmr hnone
  have hal : args.length = vals.size := by simpa using hargs.length
  -- what is left to do with the end of the code
  have hend : ∀ x s, CodeOk E rows.length fn.ntmps c ⟨start args, rows⟩ x s → (x = .normal ∨ x = .ret) → (match resultsA E s fn.results.toList with
            | some [v] => (leave rows.length v fun i => s.rows[i]?).map fun p => Res.fn p.1 p.2
            | some vs => (leave rows.length (.tup vs) fun i => s.rows[i]?).map fun p => Res.fn p.1 p.2
            | none => none) = some (.fn r out) →
      Calls E.P f vals w fun e w' => ∃ v ρ', e = .returned v ∧ (∀ i, i < rows.length → ρ' i = ρ i) ∧ (∀ i, out.length ≤ i → ρ' i = none) ∧ Kp O w w' ∧ Rep S ρ' w' r v ∧ MR S O ρ' (fun i => out[i]?) w' := by
    intro x s hx hxx hres
    refine calls_of_wp hfn hb ?_
    have hin : CInv S O ρ w fn.ntmps ⟨start args, rows⟩ { tmps := vals ++ Array.replicate (fn.ntmps - vals.size) undef, defers := [] } w := by
      refine ⟨by simp; omega, rfl, .refl _ _, ρ, .refl _, hmr, fun d => ?_, fun id hid => hnone id hid⟩
      simp only [start, Array.getD_eq_getD_getElem?, List.getD_eq_getElem?_getD]
      rcases Nat.lt_or_ge d args.length with hd | hd
      · rw [Array.getElem?_append_left (by omega), List.getElem?_eq_getElem hd, Array.getElem?_eq_getElem (by omega)]
        exact hargs.get d _ _ (List.getElem?_eq_getElem hd) (by simp)
      · rw [List.getElem?_eq_none hd]
        have : ((vals ++ Array.replicate (fn.ntmps - vals.size) undef)[d]?).getD undef = undef := by
          rw [Array.getElem?_append_right (by omega), Array.getElem?_replicate]
          split <;> rfl
        rw [this]
        exact .tup rfl (fun j c v hj _ => by simp at hj)
    refine wp_mono (hx S O ρ w (fun i hi => hnone i hi) hfr hgl _ w hin) ?_
    rintro e a' w' ⟨rfl, g1, g2, g3, ρ1, g4, g5, g6, g7⟩
    have hfin : a'.defers = [] ∧ ∃ v, (results fn a'.tmps).run E.P w' = .ok v w' ∧ ∃ v' ρ', Ending.returned v = .returned v' ∧ (∀ i, i < rows.length → ρ' i = ρ i) ∧ (∀ i, out.length ≤ i → ρ' i = none) ∧ Kp O w w' ∧ Rep S ρ' w' r v' ∧ MR S O ρ' (fun i => out[i]?) w' := by
      refine ⟨g2, ?_⟩
      have hknown : ∀ i, i < rows.length → ∃ q, rows[i]? = some q := fun i hi => ⟨_, List.getElem?_eq_getElem hi⟩
      have hrho : ∀ i, i < rows.length → ρ1 i = ρ i := fun i hi => by
        obtain ⟨q, hq⟩ := hknown i hi
        obtain ⟨x, hx⟩ := hmr.known i q hq
        rw [hx]; exact g4 i x hx
      cases hvs : resultsA E s fn.results.toList with
      | none => rw [hvs] at hres; cases hres
      | some vs =>
        rw [hvs] at hres
        obtain ⟨us, k1, k2⟩ := results_run g6 g5 rfl _ _ hvs
        have hrun : (results fn a'.tmps).run E.P w' = .ok (if h : us.toArray.size = 1 then us.toArray[0] else .tuple us.toArray) w' := by
          show (do let vs ← fn.results.mapM (readR a'.tmps); pure (if h : vs.size = 1 then vs[0] else .tuple vs) : Sem Value).run E.P w' = _
          rw [Array.mapM_eq_mapM_toList]
          simp only [map_eq_pure_bind, Sem.run_bind, Sem.run_pure, k2, Result.andThen]
        refine ⟨_, hrun, ?_⟩
        have hlv : ∀ (x : AV) (v : Value), Rep S ρ1 w' x v → (leave rows.length x fun i => s.rows[i]?).map (fun p => Res.fn p.1 p.2) = some (.fn r out) →
            ∃ v' ρ', Ending.returned v = .returned v' ∧ (∀ i, i < rows.length → ρ' i = ρ i) ∧ (∀ i, out.length ≤ i → ρ' i = none) ∧ Kp O w w' ∧ Rep S ρ' w' r v' ∧ MR S O ρ' (fun i => out[i]?) w' := by
          intro x v hxv hl
          obtain ⟨⟨r', out'⟩, h1, h2⟩ := Option.map_eq_some_iff.1 hl
          cases h2
          obtain ⟨ρ', q1, q2, q3, q4⟩ := leave_ok h1 hxv g5
          exact ⟨v, ρ', rfl, fun i hi => (q1 i hi).trans (hrho i hi), q2, g3, q3, q4⟩
        have hul := k1.length
        split at hres
        · rename_i v hv
          cases hv
          match us, hul, k1 with
          | [u], _, k1 => exact hlv v u k1.1 hres
        · rename_i vs' hne hv
          cases hv
          have : ¬ us.toArray.size = 1 := by
            intro h1
            simp only [List.size_toArray] at h1
            rw [h1] at hul
            match vs, hul with
            | [v], _ => exact hne v rfl
          rw [dif_neg this]
          exact hlv (.tup vs) _ (.tup_of (by simpa using k1)) hres
        · rename_i hv
          cases hv
    rcases hxx with rfl | rfl
    · exact hfin
    · exact hfin
  exact hend x s hx hxx hres

theorem fnK_ok (hp : PrimOk E) (hpr : ∀ f, E.prim f = none) (hm : E.P.follows .mixedOrders = true) {f : FuncId} {args : List AV} {rows : List Row} {k : AV → List Row → Prop} (h : fnK E f args rows k) : ∃ r out, FnOk E f args rows r out ∧ k r out := by
  simp only [fnK] at h
  split at h
  case h_2 => exact h.elim
  rename_i fn hfn
  split at h
  case h_2 => exact h.elim
  rename_i c hb
  split at h
  case isFalse => exact h.elim
  rename_i hlen
  obtain ⟨x, t', rows', hx, hres⟩ := execK_spec hp hpr hm _ _ _ _ h
  have hxx : x = .normal ∨ x = .ret := by
    cases x with
    | normal => exact .inl rfl
    | ret => exact .inr rfl
    | exit i => exact hres.elim
  have hres' : match resultsA E ⟨t', rows'⟩ fn.results.toList with
            | some [v] => (leave rows.length v fun i => rows'[i]?).bindP fun p => k p.1 p.2
            | some vs => (leave rows.length (.tup vs) fun i => rows'[i]?).bindP fun p => k p.1 p.2
            | none => False := by
    rcases hxx with rfl | rfl
    · exact hres
    · exact hres
  have hfin : ∃ r out, (match resultsA E ⟨t', rows'⟩ fn.results.toList with
            | some [v] => (leave rows.length v fun i => rows'[i]?).map fun p => Res.fn p.1 p.2
            | some vs => (leave rows.length (.tup vs) fun i => rows'[i]?).map fun p => Res.fn p.1 p.2
            | none => none) = some (.fn r out) ∧ k r out := by
    split at hres'
    · rename_i v hv
      obtain ⟨⟨r, out⟩, h1, h2⟩ := Option.bindP_elim hres'
      exact ⟨r, out, by simp only [h1, Option.map_some], h2⟩
    · rename_i vs hne hv
      obtain ⟨⟨r, out⟩, h1, h2⟩ := Option.bindP_elim hres'
      exact ⟨r, out, by simp only [h1, Option.map_some], h2⟩
    · exact hres'.elim
  obtain ⟨r, out, hro, hk⟩ := hfin
  exact ⟨r, out, fn_end hfn hb hlen hx hxx hro, hk⟩

/-- A loop, one round laid open. -/
theorem loop_unroll (hp : PrimOk E) (hpr : ∀ f, E.prim f = none) (hm : E.P.follows .mixedOrders = true) {k0 nt : Nat} {c : Code} {t : Nat → AV} {rows : List Row} {k : XK}
    (h : execK E k0 nt c t rows fun x t' rows' => match x with
      | .normal => ∃ x2 t2 rows2, LoopOk E k0 nt c ⟨t', rows'⟩ x2 ⟨t2, rows2⟩ ∧ k x2 t2 rows2
      | x => k x t' rows') : ∃ x t' rows', LoopOk E k0 nt c ⟨t, rows⟩ x ⟨t', rows'⟩ ∧ k x t' rows' := by
  obtain ⟨y, t', rows', h1, h2⟩ := execK_spec hp hpr hm _ _ _ _ h
  cases y with
  | normal =>
    obtain ⟨x2, t2, rows2, ⟨n, hn⟩, hk⟩ := h2
    refine ⟨x2, t2, rows2, ⟨n + 1, fun S O ρ0 w0 hk0 hfr hgl a w hin => ?_⟩, hk⟩
    rw [rounds_succ]
    refine wp_mono (h1 S O ρ0 w0 hk0 hfr hgl a w hin) ?_
    rintro e a' w' ⟨rfl, hin'⟩
    exact hn S O ρ0 w0 hk0 hfr hgl a' w' hin'
  | exit i =>
    refine ⟨.exit i, t', rows', ⟨1, fun S O ρ0 w0 hk0 hfr hgl a w hin => ?_⟩, h2⟩
    rw [rounds_succ]
    refine wp_mono (h1 S O ρ0 w0 hk0 hfr hgl a w hin) ?_
    rintro e a' w' ⟨rfl, hin'⟩
    exact ⟨rfl, hin'⟩
  | ret =>
    refine ⟨.ret, t', rows', ⟨1, fun S O ρ0 w0 hk0 hfr hgl a w hin => ?_⟩, h2⟩
    rw [rounds_succ]
    refine wp_mono (h1 S O ρ0 w0 hk0 hfr hgl a w hin) ?_
    rintro e a' w' ⟨rfl, hin'⟩
    exact ⟨rfl, hin'⟩

end
end Go.AI
