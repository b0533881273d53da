/-
  A machine of values over the model (definitions; values, rows, operations): each lemma says that what the machine answers the model answers. Conditions: none but those that each lemma lists.
-/
import Derived.Orders
import Derived.WalkKit
import Derived.Deep.AppendSrc
import Derived.WalkLawsBesides
import Derived.Laws.MakeOwn
import Derived.Laws.BytesString
set_option linter.all false
/-
  A machine of values (own work): Go's code over abstract values, with rows of its own; every function that it answers for, the model's program answers alike (A2 to A6).
  Definitions alone: values, operations, regions, code, calls, with a number of rounds.
-/
namespace Go.AI

/-- Abstract values. 'junk': any value at all. 'val': no address inside. 'nils': the nil slice. 'ptr', 'sl': into a row of the frame's own (cells from 'off' on). 'ext', 'eptr': memory that nobody writes, by what it holds. -/
inductive AV where
  | val (v : Value)
  | nils
  | ptr (id off : Nat)
  | sl (id off len esz : Nat)
  | ext (cells : List AV) (len : Nat)
  | eptr (cells : List AV)
  | agg (cells : List AV)
  | tup (vs : List AV)
  | fn (f : FuncId) (caps : List AV)
  | junk
  deriving Inhabited

/-- What is known of a row's block: none is there yet (a nil slice's); its element type; nothing. -/
inductive RT where
  | nil
  | is (t : TypeId)
  | any
  deriving DecidableEq, Inhabited

/-- A row: its cells; its block's type; may it be asked? -/
structure Row where
  cells : List AV
  ty : RT
  live : Bool
  deriving Inhabited

abbrev Rows := Nat → Option Row

/-- No address inside, one cell. -/
def flat : Value → Bool
  | .bool _ | .int .. | .float .. | .complex .. | .string _ | .pointer none | .map none | .chan none | .nilFunc | .nilIface => true
  | _ => false

def cellAV : Value → Option AV
  | .slice none 0 0 => some .nils
  | v => if flat v then some (.val v) else none

def cellsAV : List Value → Option (List AV)
  | [] => some []
  | v :: vs => match cellAV v, cellsAV vs with
    | some a, some as => some (a :: as)
    | _, _ => none

def constAV : Value → Option AV
  | .agg cs => (cellsAV cs.toList).map .agg
  | .tuple vs => if vs.size = 0 then some (.tup []) else none
  | v => cellAV v

/-- Cells that are nil slices get a row of their own, which holds nothing. -/
def deNilL (next : Nat) : List AV → List AV × List Row
  | [] => ([], [])
  | .nils :: cs => (.sl next 0 0 0 :: (deNilL (next + 1) cs).1, ⟨[], .nil, true⟩ :: (deNilL (next + 1) cs).2)
  | c :: cs => (c :: (deNilL next cs).1, (deNilL next cs).2)

def deNil (next : Nat) : AV → AV × List Row
  | .nils => (.sl next 0 0 0, [⟨[], .nil, true⟩])
  | .agg cs => (.agg (deNilL next cs).1, (deNilL next cs).2)
  | v => (v, [])

/-- The cells of a value. -/
def cellsOf : AV → List AV
  | .agg cs => cs
  | v => [v]

/-- Is it a value of one cell? -/
def one : AV → Bool
  | .agg _ | .tup _ | .junk => false
  | _ => true

def getCells (cells : List AV) (off n : Nat) : Option (List AV) :=
  if ((cells.drop off).take n).length = n then some ((cells.drop off).take n) else none

def setCells : List AV → Nat → List AV → List AV
  | cells, _, [] => cells
  | cells, off, v :: vs => setCells (cells.set off v) (off + 1) vs

section
variable (P : Program)
def szOf (t : TypeId) : Option Nat := (P.info? t).map (·.size)
def bytesOf (t : TypeId) : Option Nat := (P.info? t).map (·.bytes)
def zeroOf (t : TypeId) : Option (List AV) := match (P.info? t).bind (·.zero) with
  | some z => cellsAV z.cells.toList
  | none => none
def aggT (t : TypeId) : Option Bool := match P.underlying t with
  | some (.struct _) | some (.array ..) => some true
  | some _ => some false
  | none => none
def elemT (t : TypeId) : Option TypeId := match P.underlying t with
  | some (.slice e) => some e
  | _ => none

/-- What stands in cells from 'off' on, as a value of type t. -/
def loadA (t : TypeId) (cells : List AV) (off : Nat) : Option AV :=
  match aggT P t, szOf P t with
  | some true, some n => (getCells cells off n).map .agg
  | some false, some _ => cells[off]?
  | _, _ => none

/-- A field's, an element's part of an aggregate. -/
def partA (t : TypeId) (cells : List AV) (off : Nat) : Option AV :=
  match aggT P t, szOf P t with
  | some true, some n => some (.agg ((cells.drop off).take n))
  | some false, some _ => cells[off]?
  | _, _ => none

def eqFields (rec : TypeId → AV → AV → Option Bool) (xs ys : List AV) : List Field → Option Bool
  | [] => some true
  | f :: fs => if f.name = "_" then eqFields rec xs ys fs else
    match partA P f.type xs f.offset, partA P f.type ys f.offset with
    | some a, some b => match rec f.type a b with
      | some true => eqFields rec xs ys fs
      | some false => some false
      | none => none
    | _, _ => none

def eqIn : Nat → TypeId → AV → AV → Option Bool
  | 0, _, _, _ => none
  | d + 1, t, x, y =>
    match P.underlying t, x, y with
    | some .bool, .val (.bool a), .val (.bool b) => some (a == b)
    | some (.int _), .val (.int k a), .val (.int k' b) => if k = k' then some (a == b) else none
    | some .string, .val (.string a), .val (.string b) => some (a.data.toList == b.data.toList)
    | some (.struct fields), .agg xs, .agg ys => if P.stoodInHeld t then none else eqFields P (eqIn d) xs ys fields.toList
    | _, _, _ => none

def intA (op : BinOp) (k : IntKind) (a b : Int) : Option AV :=
  match op with
  | .add => some (.val (.int k (k.wrap (a + b))))
  | .sub => some (.val (.int k (k.wrap (a - b))))
  | .mul => some (.val (.int k (k.wrap (a * b))))
  | .quo => if b = 0 then none else some (.val (.int k (k.wrap (a.tdiv b))))
  | .rem => if b = 0 then none else some (.val (.int k (a.tmod b)))
  | .and => some (.val (.int k (k.wrap (BitVec.ofInt k.bits a &&& BitVec.ofInt k.bits b).toNat)))
  | .or => some (.val (.int k (k.wrap (BitVec.ofInt k.bits a ||| BitVec.ofInt k.bits b).toNat)))
  | .xor => some (.val (.int k (k.wrap (BitVec.ofInt k.bits a ^^^ BitVec.ofInt k.bits b).toNat)))
  | .andNot => some (.val (.int k (k.wrap (BitVec.ofInt k.bits a &&& ~~~ BitVec.ofInt k.bits b).toNat)))
  | .eql => some (.val (.bool (a == b)))
  | .neq => some (.val (.bool (a != b)))
  | .lss => some (.val (.bool (decide (a < b))))
  | .leq => some (.val (.bool (decide (a ≤ b))))
  | .gtr => some (.val (.bool (decide (a > b))))
  | .geq => some (.val (.bool (decide (a ≥ b))))
  | _ => none

def shiftA (op : BinOp) (k : IntKind) (a b : Int) : Option AV :=
  if b < 0 then none else
  match op with
  | .shl => some (.val (.int k (k.wrap (a * 2 ^ (min b.toNat k.bits)))))
  | .shr => some (.val (.int k (a.fdiv (2 ^ (min b.toNat k.bits)))))
  | _ => none

def strA (op : BinOp) (a b : ByteArray) : Option AV :=
  match op with
  | .add => if ((a.size + b.size : Nat) : Int) > 9223372036854775807 then none else some (.val (.string (a ++ b)))
  | .eql => some (.val (.bool (a.data.toList == b.data.toList)))
  | .neq => some (.val (.bool (!(a.data.toList == b.data.toList))))
  | _ => none

def binA (op : BinOp) (t : TypeId) : AV → AV → Option AV
  | .val (.int k a), .val (.int k' b) =>
    match op with
    | .shl => shiftA .shl k a b
    | .shr => shiftA .shr k a b
    | op => if k = k' then intA op k a b else none
  | .val (.string a), .val (.string b) => strA op a b
  | .val (.bool a), .val (.bool b) => match op, P.underlying t with
    | .eql, some .bool => some (.val (.bool (a == b)))
    | .neq, some .bool => some (.val (.bool (!(a == b))))
    | _, _ => none
  | .agg xs, .agg ys => if P.eqGuardType P.depth t then none else
    match op with
    | .eql => (eqIn P 10000 t (.agg xs) (.agg ys)).map fun r => .val (.bool r)
    | .neq => (eqIn P 10000 t (.agg xs) (.agg ys)).map fun r => .val (.bool (!r))
    | _ => none
  | _, _ => none

def unA (op : UnOp) : AV → Option AV
  | .val (.bool b) => match op with
    | .not => some (.val (.bool (!b)))
    | _ => none
  | .val (.int k n) => match op with
    | .neg => some (.val (.int k (k.wrap (0 - n))))
    | _ => none
  | _ => none

/-- Filling a literal's parts: place, value. -/
def fillA (place : Nat → Option (Nat × Nat)) (cells : List AV) : List (Nat × AV) → Option (List AV)
  | [] => some cells
  | (i, v) :: rest =>
    match place i with
    | none => none
    | some (off, size) =>
      if (cellsOf v).length ≠ size || off + (cellsOf v).length > cells.length || !(cellsOf v).all one then none
      else fillA place (setCells cells off (cellsOf v)) rest

def placesA : List Field → Option (List (Nat × Nat))
  | [] => some []
  | f :: fs => match szOf P f.type, placesA fs with
    | some n, some ps => some ((f.offset, n) :: ps)
    | _, _ => none

/-- A bound of a slice expression. -/
def boundA (y : Nat) : AV → Option Nat
  | .val (.int _ i) => if 0 ≤ i ∧ i ≤ y then some i.toNat else none
  | _ => none

def boundD (d : Nat) (y : Nat) : Option AV → Option Nat
  | none => some d
  | some v => boundA y v

end

/-- What an operation does: its value; rows that it turns; rows that it makes (from 'next' on); rows that it asks. -/
structure Eff where
  val : AV
  upd : List (Nat × Row)
  new : List Row
  use : List Nat

def pureE (v : AV) : Option Eff := some ⟨v, [], [], []⟩

/-- Rows behind an operation. -/
def applyE (rows : List Row) (e : Eff) : List Row := (e.upd.foldl (fun rs p => rs.set p.1 p.2) rows) ++ e.new

/-- Nothing inside that is a row of the frame's own. -/
def plain : AV → Bool
  | .val _ | .ext .. | .eptr _ => true
  | _ => false
mutual
def plainV : AV → Bool
  | .val _ | .ext .. | .eptr _ | .nils => true
  | .ptr .. | .sl .. | .junk => false
  | .agg cs => plainL cs
  | .tup cs => plainL cs
  | .fn _ cs => plainL cs
def plainL : List AV → Bool
  | [] => true
  | c :: cs => plainV c && plainL cs
end
mutual
/-- Nothing inside that is memory by what it holds. -/
def noExt : AV → Bool
  | .ext .. | .eptr _ => false
  | .val _ | .nils | .ptr .. | .sl .. | .junk => true
  | .agg cs => noExtL cs
  | .tup cs => noExtL cs
  | .fn _ cs => noExtL cs
def noExtL : List AV → Bool
  | [] => true
  | c :: cs => noExt c && noExtL cs
end
mutual
/-- The rows that a value leads to, by its own pointers and slices. -/
def idsV : AV → List Nat
  | .ptr id _ => [id]
  | .sl id _ _ _ => [id]
  | .val _ | .ext .. | .eptr _ | .nils | .junk => []
  | .agg cs => idsL cs
  | .tup cs => idsL cs
  | .fn _ cs => idsL cs
def idsL : List AV → List Nat
  | [] => []
  | c :: cs => idsV c ++ idsL cs
end
mutual
/-- Rows renumbered. -/
def ren (σ : Nat → Nat) : AV → AV
  | .ptr id off => .ptr (σ id) off
  | .sl id off len z => .sl (σ id) off len z
  | .val v => .val v
  | .nils => .nils
  | .ext cs n => .ext cs n
  | .eptr cs => .eptr cs
  | .junk => .junk
  | .agg cs => .agg (renL σ cs)
  | .tup cs => .tup (renL σ cs)
  | .fn f cs => .fn f (renL σ cs)
def renL (σ : Nat → Nat) : List AV → List AV
  | [] => []
  | c :: cs => ren σ c :: renL σ cs
end

def idsR (rows : Rows) (i : Nat) : List Nat := match rows i with
  | some r => if r.live then idsL r.cells else []
  | none => []

/-- All rows that are led to, in the order in which they are met. -/
def reach (rows : Rows) : Nat → List Nat → List Nat → Option (List Nat)
  | _, acc, [] => some acc
  | 0, _, _ :: _ => none
  | n + 1, acc, i :: is => if acc.contains i then reach rows n acc is else reach rows n (acc ++ [i]) (idsR rows i ++ is)

def index (l : List Nat) (i : Nat) : Nat := l.idxOf i

/-- A list, element by element. -/
def mapO (f : AV → Option AV) : List AV → Option (List AV)
  | [] => some []
  | c :: cs => match f c, mapO f cs with
    | some a, some as => some (a :: as)
    | _, _ => none

/-- An argument: what is handed over by reference is renumbered (those in 'ids'); another slice is handed over by what it holds. -/
def passV (byRef : Bool) (rows : Rows) (ids : List Nat) : Nat → AV → Option AV
  | 0, _ => none
  | n + 1, v =>
    match v with
    | .ptr id off => if ids.contains id then some (.ptr (index ids id) off) else none
    | .sl id off len z => if ids.contains id then some (.sl (index ids id) off len z) else
      match rows id with
      | some r => if r.live then match getCells r.cells off (len * z) with
          | some cs => if plainL cs then some (.ext cs len) else match mapO (passV byRef rows ids n) cs with
            | some cs' => if plainL cs' then some (.ext cs' len) else none
            | none => none
          | none => none
        else none
      | none => none
    | .val v => some (.val v)
    | .nils => some (if byRef then .nils else .ext [] 0)
    | .ext cs n => some (.ext cs n)
    | .eptr cs => some (.eptr cs)
    | .agg cs => (mapO (passV byRef rows ids n) cs).map .agg
    | .tup cs => (mapO (passV byRef rows ids n) cs).map .tup
    | .fn f cs => (mapO (passV byRef rows ids n) cs).map (.fn f)
    | .junk => none

mutual
/-- The roots of what is handed over by reference: pointers; slices, too, if 'byRef'. -/
def rootsOf (byRef : Bool) : AV → List Nat
  | .ptr id _ => [id]
  | .sl id _ _ _ => if byRef then [id] else []
  | .agg cs => rootsL byRef cs
  | .tup cs => rootsL byRef cs
  | .fn _ cs => rootsL byRef cs
  | .val _ | .nils | .ext .. | .eptr _ | .junk => []
def rootsL (byRef : Bool) : List AV → List Nat
  | [] => []
  | c :: cs => rootsOf byRef c ++ rootsL byRef cs
end

def rowsAt (rows : Rows) : List Nat → Option (List Row)
  | [] => some []
  | i :: is => match rows i, rowsAt rows is with
    | some r, some rs => some (r :: rs)
    | _, _ => none

def renR (σ : Nat → Nat) (r : Row) : Row := { r with cells := renL σ r.cells }

/-- What a frame leaves: its result and the rows that it leads to; the first k rows came in. -/
def leave (k : Nat) (r : AV) (rows : Rows) : Option (AV × List Row) :=
  match reach rows 100000 (List.range k) ((List.range k).flatMap (idsR rows) ++ idsV r) with
  | some ids => match rowsAt rows ids with
    | some rs => some (ren (index ids) r, rs.map (renR (index ids)))
    | none => none
  | none => none

inductive X where
  | normal
  | exit (id : Nat)
  | ret
  deriving DecidableEq, Inhabited

structure St where
  t : Nat → AV
  rows : List Row

def upd (t : Nat → AV) (d : Nat) (v : AV) : Nat → AV := fun i => if i = d then v else t i

/-- What is asked of the machine: a call, with the rows that are handed over; a loop. -/
inductive Task where
  | fn (f : FuncId) (args : List AV) (rows : List Row)
  | loop (nt : Nat) (body : Code) (s : St)

inductive Res where
  | fn (r : AV) (rows : List Row)
  | code (x : X) (s : St)

/-- What stays as it is while the machine runs: the program, its package-level variables, which functions take slices by reference. -/
structure Env where
  P : Program
  G : Nat → Option (List AV)
  byRef : FuncId → Bool
  prim : FuncId → Option (List AV → Rows → Nat → Option Eff)

section
variable (E : Env) (rec : Task → Option Res)

def ev (t : Nat → AV) : Operand → Option AV
  | .tmp d => some (t d)
  | .const v => constAV v
  | .global g => (E.G g).map .eptr
  | .func f => some (.fn f [])

def evs (t : Nat → AV) : List Operand → Option (List AV)
  | [] => some []
  | x :: xs => match ev E t x, evs t xs with
    | some a, some as => some (a :: as)
    | _, _ => none

def evO (t : Nat → AV) : Option Operand → Option (Option AV)
  | none => some none
  | some x => (ev E t x).map some

def evParts (t : Nat → AV) : List (Nat × Operand) → Option (List (Nat × AV))
  | [] => some []
  | (i, x) :: xs => match ev E t x, evParts t xs with
    | some a, some as => some ((i, a) :: as)
    | _, _ => none

/-- The cells that a slice holds. -/
def contents (rows : Rows) (esz : Nat) : AV → Option (List AV × Nat × List Nat)
  | .nils => some ([], 0, [])
  | .ext cs n => if cs.length = n * esz then some (cs, n, []) else none
  | .sl id off n z => match rows id with
    | some r => if r.live ∧ (n = 0 ∨ z = esz) then (getCells r.cells off (n * esz)).map fun cs => (cs, n, [id]) else none
    | none => none
  | .val (.string s) => if esz = 1 then some (s.data.toList.map fun b => .val (.int .u8 b.toNat), s.size, []) else none
  | _ => none

/-- A row's type behind an append. -/
def RT.grow (e : TypeId) : RT → RT
  | .nil => .is e
  | .is t => if t = e then .is e else .any
  | .any => .any

/-- So many zero values behind a nil slice: append(s, make([]T, n)...). -/
def appendZ (e : TypeId) (rows : Rows) (next : Nat) (s : AV) (n : Int) : Option Eff :=
  match szOf E.P e, bytesOf E.P e, zeroOf E.P e with
  | some z, some by_, some zs =>
    if 0 < n ∧ n ≤ 9223372036854775807 ∧ n.toNat * by_ ≤ 140737488355328 ∧ zs.length = z ∧ z ≠ 0 ∧ by_ ≠ 0 then
      match s with
      | .nils => some ⟨.sl next 0 n.toNat z, [], [⟨(List.replicate n.toNat zs).flatten, .is e, true⟩], []⟩
      | .sl id _ 0 _ => match rows id with
        | some r => if r.live ∧ r.ty = .nil then some ⟨.sl next 0 n.toNat z, [], [⟨(List.replicate n.toNat zs).flatten, .is e, true⟩], [id]⟩ else none
        | none => none
      | _ => none
    else none
  | _, _, _ => none

def appendA (e : TypeId) (rows : Rows) (next : Nat) (s x : AV) : Option Eff :=
  match szOf E.P e, bytesOf E.P e, zeroOf E.P e with
  | some z, some by_, some zs =>
    if zs.length ≠ z ∨ z = 0 ∨ by_ = 0 then none else
    match contents rows z x with
    | some (cs, n, us) =>
      match s with
      | .nils => if n * by_ ≤ 140737488355328 then (if n = 0 then some ⟨.nils, [], [], us⟩ else some ⟨.sl next 0 n z, [], [⟨cs, .is e, true⟩], us⟩) else none
      | .sl id off len z' =>
        match rows id with
        | some r =>
          if r.live ∧ (r.ty = .nil ∨ z' = z) ∧ off + len * z ≤ r.cells.length ∧ (len + n) * by_ ≤ 140737488355328 then
            if n = 0 then some ⟨.sl id off len z, [], [], id :: us⟩ else
            if off + (len + n) * z ≤ r.cells.length then
              some ⟨.sl id off (len + n) z, [(id, { r with cells := setCells r.cells (off + len * z) cs })], [], id :: us⟩
            else if off = 0 then some ⟨.sl next 0 (len + n) z, [(id, { r with live := false })], [⟨((r.cells.drop off).take (len * z)) ++ cs, r.ty.grow e, true⟩], id :: us⟩ else none
          else none
        | none => none
      | _ => none
    | none => none
  | _, _, _ => none

def lenA : AV → Option Nat
  | .nils => some 0
  | .sl _ _ n _ => some n
  | .ext _ n => some n
  | .val (.string s) => some s.size
  | _ => none

def copyA (e : TypeId) (rows : Rows) (d s : AV) : Option Eff :=
  match szOf E.P e with
  | some z => match contents rows z s with
    | some (cs, n, us) => match d with
      | .sl id off len z' => match rows id with
        | some r => if r.live ∧ (len = 0 ∨ z' = z) ∧ off + len * z ≤ r.cells.length then
            some ⟨.val (.int .i64 (min n len : Nat)), [(id, { r with cells := setCells r.cells off (cs.take (min n len * z)) })], [], id :: us⟩
          else none
        | none => none
      | _ => none
    | none => none
  | none => none

def builtinA (b : Builtin) (argTypes : Array TypeId) (args : List AV) (rows : Rows) (next : Nat) : Option Eff :=
  match b, args with
  | .len, [x] => match argTypes[0]? with
    | some t => match E.P.underlying t, x with
      | some .string, .val (.string s) => pureE (.val (.int .i64 s.size))
      | some (.slice _), x => match lenA x with
        | some n => match x with
          | .val _ => none
          | _ => pureE (.val (.int .i64 n))
        | none => none
      | _, _ => none
    | none => none
  | .append, [s, x] => match argTypes.toList with
    | [t, tx] => match elemT E.P t, E.P.underlying tx with
      | some e, some (.slice _) => match x with
        | .val _ => none
        | _ => appendA E e rows next s x
      | some e, some .string => match x with
        | .val (.string _) => appendA E e rows next s x
        | _ => none
      | some e, some (.int _) => match x with
        | .val (.int _ n) => appendZ E e rows next s n
        | _ => none
      | _, _ => none
    | _ => none
  | .copy, [d, s] => match argTypes[0]? with
    | some t => match elemT E.P t with
      | some e => copyA E e rows d s
      | none => none
    | none => none
  | .cap, [x] => match (argTypes[0]?).bind E.P.underlying, x with
    | some (.slice _), .nils => pureE (.val (.int .i64 0))
    | some (.slice _), .sl id _ _ _ => match rows id with
      | some r => if r.live ∧ r.ty = .nil then some ⟨.val (.int .i64 0), [], [], [id]⟩ else none
      | none => none
    | _, _ => none
  | .max, [.val (.int k a), .val (.int k' b)] => if k = k' then pureE (.val (.int k (if b > a then b else a))) else none
  | .min, [.val (.int k a), .val (.int k' b)] => if k = k' then pureE (.val (.int k (if b < a then b else a))) else none
  | _, _ => none

def callA (f : FuncId) (args : List AV) (rows : Rows) (next : Nat) : Option Eff :=
  match E.prim f with
  | some p => p args rows next
  | none =>
  match E.P.funcs[f]? with
  | some fn => if fn.name == "runtime.NumGoroutine" || fn.body.isNone then none else
    match reach rows 100000 [] (rootsL (E.byRef f) args), reach rows 100000 [] (idsL args) with
    | some ids, some us => match mapO (passV (E.byRef f) rows ids 30) args, rowsAt rows ids with
      | some args', some rs =>
        match rec (.fn f args' (rs.map (renR (index ids)))) with
        | some (.fn r out) =>
          if ((idsL args).all ids.contains || noExt r && out.all fun q => noExtL q.cells) = true ∧ ids.length ≤ out.length then
            let τ := fun j => if j < ids.length then ids.getD j 0 else next + (j - ids.length)
            some ⟨ren τ r, ids.zip ((out.take ids.length).map (renR τ)), (out.drop ids.length).map (renR τ), us⟩
          else none
        | _ => none
      | _, _ => none
    | _, _ => none
  | none => none

/-- One operation. -/
def stepOp (o : Op) (t : Nat → AV) (rows : Rows) (next : Nat) : Option Eff :=
  match o with
  | .move x | .assign x => match ev E t x with
    | some v => some ⟨(deNil next v).1, [], (deNil next v).2, []⟩
    | none => none
  | .pick c a b => match ev E t c, ev E t a, ev E t b with
    | some (.val (.bool q)), some x, some y => pureE (if q then x else y)
    | _, _, _ => none
  | .alloc e => match zeroOf E.P e with
    | some cs => some ⟨.ptr next 0, [], ⟨(deNilL (next + 1) cs).1, .is e, true⟩ :: (deNilL (next + 1) cs).2, []⟩
    | none => none
  | .box e x => match ev E t x with
    | some v => if (cellsOf v).all one then some ⟨.ptr next 0, [], ⟨(deNilL (next + 1) (cellsOf v)).1, .is e, true⟩ :: (deNilL (next + 1) (cellsOf v)).2, []⟩ else none
    | none => none
  | .build ty parts => match zeroOf E.P ty, evParts E t parts.toList with
    | some z, some ps => match E.P.underlying ty with
      | some (.struct fields) => match placesA E.P fields.toList with
        | some pl => match fillA (pl[·]?) z ps with
          | some cs => some ⟨.agg (deNilL next cs).1, [], (deNilL next cs).2, []⟩
          | none => none
        | none => none
      | some (.array _ e) => match szOf E.P e with
        | some n => match fillA (fun i => some (i * n, n)) z ps with
          | some cs => some ⟨.agg (deNilL next cs).1, [], (deNilL next cs).2, []⟩
          | none => none
        | none => none
      | _ => none
    | _, _ => none
  | .buildSlice ty len parts => match elemT E.P ty with
    | some e => match szOf E.P e, zeroOf E.P e, evParts E t parts.toList with
      | some n, some z, some ps => if len * n > 16777216 ∨ z.length ≠ n then none else
        match fillA (fun i => some (i * n, n)) (List.replicate len z).flatten ps with
        | some cs => if cs.all one then some ⟨.sl next 0 len n, [], ⟨(deNilL (next + 1) cs).1, .is e, true⟩ :: (deNilL (next + 1) cs).2, []⟩ else none
        | none => none
      | _, _, _ => none
    | none => none
  | .load ty a => match ev E t a with
    | some (.ptr id off) => match rows id with
      | some r => if r.live then (loadA E.P ty r.cells off).map fun v => ⟨v, [], [], [id]⟩ else none
      | none => none
    | some (.eptr cs) => match loadA E.P ty cs 0 with
      | some v => pureE v
      | none => none
    | _ => none
  | .store ty a x => match ev E t a, ev E t x, szOf E.P ty with
    | some (.ptr id off), some v, some n => match rows id with
      | some r => if r.live ∧ (cellsOf v).length = n ∧ off + n ≤ r.cells.length ∧ (cellsOf v).all one then
          some ⟨.tup [], [(id, { r with cells := setCells r.cells off (deNilL next (cellsOf v)).1 })], (deNilL next (cellsOf v)).2, [id]⟩
        else none
      | none => none
    | _, _, _ => none
  | .nilCheck x => match ev E t x with
    | some (.ptr id off) => pureE (.ptr id off)
    | some (.eptr cs) => pureE (.eptr cs)
    | some (.fn f cs) => pureE (.fn f cs)
    | _ => none
  | .binOp op ty x y _ => match ev E t x, ev E t y with
    | some a, some b => match binA E.P op ty a b with
      | some v => pureE v
      | none => none
    | _, _ => none
  | .unOp op _ x => match ev E t x with
    | some a => match unA op a with
      | some v => pureE v
      | none => none
    | none => none
  | .convert s d x => match E.P.underlying s, E.P.underlying d, ev E t x with
    | some _, some (.int k), some (.val (.int _ n)) => pureE (.val (.int k (k.wrap n)))
    | some .string, some .string, some (.val (.string b)) => pureE (.val (.string b))
    | some .string, some (.slice e), some (.val (.string b)) => match E.P.underlying e with
      | some (.int .u8) => some ⟨.sl next 0 b.size 1, [], [⟨b.data.toList.map fun c => .val (.int .u8 c.toNat), .is e, true⟩], []⟩
      | _ => none
    | some (.slice e), some .string, some x => match E.P.underlying e, contents rows 1 x with
      | some (.int .u8), some (cs, n, us) => match x with
        | .val _ => none
        | _ => match bytesA cs with
          | some l => if n = l.length then some ⟨.val (.string ⟨l.toArray⟩), [], [], us⟩ else none
          | none => none
      | _, _ => none
    | _, _, _ => none
  | .makeFunc (.func f) first caps => if first.size ≠ 0 then none else match evs E t caps.toList with
    | some cs => pureE (.fn f cs)
    | none => none
  | .makeSlice ty l c => match elemT E.P ty, ev E t l, ev E t c with
    | some e, some (.val (.int _ a)), some (.val (.int _ b)) => match bytesOf E.P e, szOf E.P e, zeroOf E.P e with
      | some by_, some n, some z =>
        if 0 ≤ a ∧ a ≤ b ∧ b ≤ 9223372036854775807 ∧ by_ * b ≤ 140737488355328 ∧ z.length = n ∧ n ≠ 0 ∧ plainL z = true then
          some ⟨.sl next 0 a.toNat n, [], [⟨(List.replicate a.toNat z).flatten, .is e, true⟩], []⟩
        else none
      | _, _, _ => none
    | _, _, _ => none
  | .slice ty x lo hi mx => match mx with
    | some _ => none
    | none => match ev E t x, evO E t lo, evO E t hi with
      | some v, some lo, some hi =>
        match E.P.underlying ty, v with
        | some .string, .val (.string s) => match boundD s.size s.size hi with
          | some h => match boundD 0 h lo with
            | some l => pureE (.val (.string (s.extract l h)))
            | none => none
          | none => none
        | some (.slice e), .nils => match szOf E.P e, boundD 0 0 hi, boundD 0 0 lo with
          | some _, some _, some _ => pureE .nils
          | _, _, _ => none
        | some (.slice e), .ext cs n => match szOf E.P e, boundD n n hi with
          | some z, some h => match boundD 0 h lo with
            | some l => pureE (.ext ((cs.drop (l * z)).take ((h - l) * z)) (h - l))
            | none => none
          | _, _ => none
        | some (.slice e), .sl id off n z' => match szOf E.P e, rows id with
          | some z, some r => if r.live ∧ (r.ty = .nil ∨ z' = z) ∧ z ≠ 0 then
              match boundD n (max n ((r.cells.length - off) / z)) hi with
              | some h => match boundD 0 h lo with
                | some l => some ⟨.sl id (off + l * z) (h - l) z, [], [], [id]⟩
                | none => none
              | none => none
            else none
          | _, _ => none
        | some (.array len e), .ptr id off => match szOf E.P e, rows id with
          | some z, some r => if r.live ∧ r.cells.length = off + len * z ∧ z ≠ 0 then
              match boundD len len hi with
              | some h => match boundD 0 h lo with
                | some l => some ⟨.sl id (off + l * z) (h - l) z, [], [], [id]⟩
                | none => none
              | none => none
            else none
          | _, _ => none
        | _, _ => none
      | _, _, _ => none
  | .fieldAddr s x f => match E.P.underlying s with
    | some (.struct fields) => match fields[f]? with
      | some q => match szOf E.P q.type with
        | some n => if n = 0 then none else match ev E t x with
          | some (.ptr id off) => pureE (.ptr id (off + q.offset))
          | some (.eptr cs) => pureE (.eptr (cs.drop q.offset))
          | _ => none
        | none => none
      | none => none
    | _ => none
  | .field s x f => match E.P.underlying s, ev E t x with
    | some (.struct fields), some (.agg cs) => match fields[f]? with
      | some q => match partA E.P q.type cs q.offset with
        | some v => pureE v
        | none => none
      | none => none
    | _, _ => none
  | .indexAddr ty x i => match ev E t i, ev E t x with
    | some (.val (.int _ j)), some v => match E.P.underlying ty, v with
      | some (.slice e), .sl id off n z' => match szOf E.P e with
        | some z => if 0 ≤ j ∧ j < n ∧ z' = z then pureE (.ptr id (off + j.toNat * z)) else none
        | none => none
      | some (.slice e), .ext cs n => match szOf E.P e with
        | some z => if 0 ≤ j ∧ j < n then pureE (.eptr (cs.drop (j.toNat * z))) else none
        | none => none
      | some (.array len e), .ptr id off => match szOf E.P e with
        | some z => if 0 ≤ j ∧ j < len then pureE (.ptr id (off + j.toNat * z)) else none
        | none => none
      | some (.array len e), .eptr cs => match szOf E.P e with
        | some z => if 0 ≤ j ∧ j < len then pureE (.eptr (cs.drop (j.toNat * z))) else none
        | none => none
      | _, _ => none
    | _, _ => none
  | .index ty x i => match ev E t i, ev E t x with
    | some (.val (.int _ j)), some v => match E.P.underlying ty, v with
      | some (.array len e), .agg cs => match szOf E.P e with
        | some z => if 0 ≤ j ∧ j < len then match partA E.P e cs (j.toNat * z) with
            | some w => pureE w
            | none => none
          else none
        | none => none
      | some .string, .val (.string s) => if 0 ≤ j then match s.data.toList[j.toNat]? with
          | some b => pureE (.val (.int .u8 b.toNat))
          | none => none
        else none
      | _, _ => none
    | _, _ => none
  | .extract x i => match ev E t x with
    | some (.tup vs) => match vs[i]? with
      | some v => pureE v
      | none => none
    | _ => none
  | .call c => match evs E t c.args.toList with
    | some args => match c.callee with
      | .builtin b => builtinA E b c.argTypes args rows next
      | .value f => match ev E t f with
        | some (.fn g caps) => callA E rec g (args ++ caps) rows next
        | _ => none
      | _ => none
    | none => none
  | _ => none
where
  bytesA : List AV → Option (List UInt8)
    | [] => some []
    | .val (.int .u8 n) :: cs => (bytesA cs).map fun l => UInt8.ofNat n.toNat :: l
    | _ => none

/-- Is the operation's guard met? -/
def wantedA (ops : Array Oper) (o : Oper) (t : Nat → AV) : Bool :=
  match o.guard with
  | none => true
  | some (j, want) => match (ops[j]?).bind (·.dst) with
    | some d => match t d with
      | .val (.bool b) => b == want
      | _ => false
    | none => false

/-- Is it known whether the guard is met? -/
def sureG (ops : Array Oper) (o : Oper) (t : Nat → AV) : Bool :=
  match o.guard with
  | none => true
  | some (j, _) => match (ops[j]?).bind (·.dst) with
    | some d => match t d with
      | .junk => false
      | _ => true
    | none => true

/-- What an operation asked and turned. -/
structure Ev where
  use : List Nat
  touch : List Nat

def evOf (next : Nat) (e : Eff) : Ev := ⟨e.use, e.upd.map (·.1) ++ (List.range e.new.length).map (next + ·)⟩

def putA (t : Nat → AV) : Option Nat → AV → Nat → AV
  | some d, v => upd t d v
  | none, _ => t

def dstOk (nt : Nat) : Option Nat → Bool
  | some d => d < nt
  | none => true

def runOps (nt : Nat) (ops : Array Oper) : List Oper → St → Option (St × List Ev)
  | [], s => some (s, [])
  | o :: os, s =>
    if dstOk nt o.dst = false ∨ sureG ops o s.t = false then none else
    if wantedA ops o s.t = true then
      match stepOp E rec o.op s.t (fun i => s.rows[i]?) s.rows.length with
      | some e => match runOps nt ops os ⟨putA s.t o.dst e.val, applyE s.rows e⟩ with
        | some (s', evs) => some (s', evOf s.rows.length e :: evs)
        | none => none
      | none => none
    else match runOps nt ops os ⟨putA s.t o.dst (.tup []), s.rows⟩ with
      | some (s', evs) => some (s', ⟨[], []⟩ :: evs)
      | none => none

def clash (a b : Ev) : Bool := a.touch.any (fun i => b.touch.contains i || b.use.contains i) || b.touch.any (fun i => a.use.contains i)

/-- What an operation looks at: its operands; what its guard yields. -/
def looks (ops : Array Oper) (o : Oper) : List Tmp :=
  (o.op.operands.toList.filterMap fun | .tmp t => some t | _ => none) ++
  (match o.guard with
   | some (g, _) => ((ops[g]?).bind (·.dst)).toList
   | none => [])

/-- Does y look at what x writes, or write it too? -/
def tclash (ops : Array Oper) (x y : Oper) : Bool :=
  match x.dst with
  | some d => (looks ops y).contains d || y.dst == some d
  | none => false

def force (n : Nat) (k : Nat → Bool) : Bool := match n with
  | 0 => k 0
  | n + 1 => k (n + 1)

/-- Whom an operation waits for, by the numbers of those before it. -/
def mask (o : Oper) (acc : List Nat) : Nat :=
  o.after.toList.foldl (fun s e => if Region.binds .any e then s ||| 2 ^ e.on ||| acc.getD e.on 0 else s) 0

/-- From operation j on: edges lead back; operations that an order may part don't meet. -/
def apartGo (ops : Array Oper) (evs : List Ev) : List Oper → Nat → List Nat → Bool
  | [], _, _ => true
  | o :: os, j, acc =>
    o.after.toList.all (fun e => !Region.binds .any e || decide (e.on < j)) &&
    force (mask o acc) fun m =>
      ((List.range j).all fun i => m.testBit i || (!(tclash ops (ops.getD i default) o) && !(tclash ops o (ops.getD i default)) && !(clash (evs.getD i ⟨[], []⟩) (evs.getD j ⟨[], []⟩)))) &&
      apartGo ops evs os (j + 1) (acc ++ [m])

def apartOk (ops : Array Oper) (evs : List Ev) : Bool := apartGo ops evs ops.toList 0 []

def execC (nt : Nat) : Code → St → Option (X × St)
  | .skip, s => some (.normal, s)
  | .ret, s => some (.ret, s)
  | .exit id, s => some (.exit id, s)
  | .region _ ops draw, s => match runOps E rec nt ops ops.toList s with
    | some (s', evs) => if draw = false ∨ apartOk ops evs = true then some (.normal, s') else none
    | none => none
  | .seq a b, s => match execC nt a s with
    | some (.normal, s') => execC nt b s'
    | r => r
  | .cond c a b, s => match ev E s.t c with
    | some (.val (.bool q)) => if q then execC nt a s else execC nt b s
    | _ => none
  | .block id c, s => match execC nt c s with
    | some (.exit i, s') => if i = id then some (.normal, s') else some (.exit i, s')
    | r => r
  | .loop c, s => match rec (.loop nt c s) with
    | some (.code x s') => some (x, s')
    | _ => none
  | _, _ => none

def resultsA (s : St) : List ResultVar → Option (List AV)
  | [] => some []
  | .tmp d :: rs => (resultsA s rs).map fun vs => s.t d :: vs
  | .cell d ty :: rs => match s.t d with
    | .ptr id off => match s.rows[id]? with
      | some r => if r.live then match loadA E.P ty r.cells off, resultsA s rs with
          | some v, some vs => some (v :: vs)
          | _, _ => none
        else none
      | none => none
    | _ => none

def start (args : List AV) : Nat → AV := fun i => args.getD i (.tup [])

def F : Task → Option Res
  | .fn f args rows => match E.P.funcs[f]? with
    | some fn => match fn.body with
      | some c => if args.length ≤ fn.ntmps then match execC E rec fn.ntmps c ⟨start args, rows⟩ with
          | some (.normal, s) | some (.ret, s) => match resultsA E s fn.results.toList with
            | some [v] => (leave rows.length v fun i => s.rows[i]?).map fun p => .fn p.1 p.2
            | some vs => (leave rows.length (.tup vs) fun i => s.rows[i]?).map fun p => .fn p.1 p.2
            | none => none
          | _ => none
        else none
      | none => none
    | none => none
  | .loop nt c s => match execC E rec nt c s with
    | some (.normal, s') => rec (.loop nt c s')
    | some (x, s') => some (.code x s')
    | none => none

end

def exec (E : Env) : Nat → Task → Option Res
  | 0 => fun _ => none
  | n + 1 => F E (exec E n)

end Go.AI

/-
  What the machine of values (A1) says of the model's memory: which values stand for which, which rows for which blocks; and that it goes on being so.
-/
namespace Go.AI

/-- Where a row lies: its block, its first cell there, how many cells are known, how many the block has. -/
structure Loc where
  blk : Nat
  size : Nat
  bsz : Nat

/-- A row begins at its block's first cell. -/
abbrev Loc.base (_ : Loc) : Nat := 0

/-- Where rows lie: not known yet; nowhere (a nil slice's); there. -/
abbrev Map := Nat → Option (Option Loc)

def Map.le (ρ ρ' : Map) : Prop := ∀ id x, ρ id = some x → ρ' id = some x
theorem Map.le.refl (ρ : Map) : ρ.le ρ := fun _ _ h => h
theorem Map.le.trans {a b c : Map} (h : a.le b) (k : b.le c) : a.le c := fun id x e => k id x (h id x e)

theorem plainL_all : ∀ cs : List AV, plainL cs = cs.all plainV
  | [] => by simp [plainL]
  | c :: cs => by simp [plainL, plainL_all cs]
theorem plainL_drop {cs : List AV} (h : plainL cs = true) (n : Nat) : plainL (cs.drop n) = true := by
  rw [plainL_all, List.all_eq_true] at *
  exact fun c hc => h c (List.mem_of_mem_drop hc)
theorem plainL_take {cs : List AV} (h : plainL cs = true) (n : Nat) : plainL (cs.take n) = true := by
  rw [plainL_all, List.all_eq_true] at *
  exact fun c hc => h c (List.mem_of_mem_take hc)

/-- Value v is abstract value a, in world w: S: the blocks that nobody writes; ρ: where rows lie. -/
inductive Rep (S : Nat → Prop) (ρ : Map) (w : World) : AV → Value → Prop
  | val {v : Value} (h : flat v = true) : Rep S ρ w (.val v) v
  | nils : Rep S ρ w .nils (.slice none 0 0)
  | ptr {id off : Nat} {L : Loc} (h : ρ id = some (some L)) : Rep S ρ w (.ptr id off) (.pointer (some ⟨L.blk, L.base + off, none⟩))
  | sl {id off len z cap : Nat} {A : Option Addr} {x : Option Loc} (hx : ρ id = some x) (hl : len ≤ cap)
      (hc : 0 < cap → ∃ L, x = some L ∧ A = some ⟨L.blk, L.base + off, none⟩ ∧ L.size ≤ off + cap * z ∧ L.base + off + cap * z ≤ L.bsz)
      (h0 : cap = 0 → ∀ L, x = some L → L.size ≤ off) : Rep S ρ w (.sl id off len z) (.slice A len cap)
  | ext {cs : List AV} {len cap : Nat} {A : Option Addr} (vs : Nat → Value) (hl : len ≤ cap) (hn : 0 < len → A.isSome = true) (hp : plainL cs = true) (ho : ∀ c ∈ cs, one c = true)
      (hA : cs ≠ [] → ∃ a, A = some a ∧ S a.block ∧ ∀ j, j < cs.length → w.cell? (a.add j) = some (vs j))
      (hr : ∀ (j : Nat) (c : AV), cs[j]? = some c → Rep S ρ w c (vs j)) : Rep S ρ w (.ext cs len) (.slice A len cap)
  | eptr {cs : List AV} {a : Addr} (vs : Nat → Value) (hp : plainL cs = true) (ho : ∀ c ∈ cs, one c = true) (hS : cs ≠ [] → S a.block)
      (hA : ∀ j, j < cs.length → w.cell? (a.add j) = some (vs j))
      (hr : ∀ (j : Nat) (c : AV), cs[j]? = some c → Rep S ρ w c (vs j)) : Rep S ρ w (.eptr cs) (.pointer (some a))
  | agg {cs : List AV} {vs : Array Value} (hl : cs.length = vs.size) (ho : ∀ c ∈ cs, one c = true)
      (hr : ∀ (j : Nat) (c : AV) (v : Value), cs[j]? = some c → vs[j]? = some v → Rep S ρ w c v) : Rep S ρ w (.agg cs) (.agg vs)
  | tup {cs : List AV} {vs : Array Value} (hl : cs.length = vs.size)
      (hr : ∀ (j : Nat) (c : AV) (v : Value), cs[j]? = some c → vs[j]? = some v → Rep S ρ w c v) : Rep S ρ w (.tup cs) (.tuple vs)
  | fn {f : FuncId} {cs : List AV} {vs : Array Value} (hl : cs.length = vs.size)
      (hr : ∀ (j : Nat) (c : AV) (v : Value), cs[j]? = some c → vs[j]? = some v → Rep S ρ w c v) : Rep S ρ w (.fn f cs) (.func (.func f) #[] vs)
  | junk {v : Value} : Rep S ρ w .junk v

theorem Rep.mono {S S' : Nat → Prop} {ρ ρ' : Map} {w w' : World} {a : AV} {v : Value} (h : Rep S ρ w a v)
    (hρ : ρ.le ρ') (hS : ∀ b, S b → S' b) (hw : ∀ b, S b → w'.heap[b]? = w.heap[b]?) : Rep S' ρ' w' a v := by
  have hcell : ∀ (p : Addr) (u : Value), S p.block → w.cell? p = some u → w'.cell? p = some u := by
    intro p u hp hu
    unfold World.cell? at hu ⊢
    rw [hw _ hp]
    exact hu
  have hblk : ∀ (p : Addr) (j : Nat), (p.add j).block = p.block := by
    intro p j
    unfold Addr.add
    split <;> rfl
  induction h with
  | val h => exact .val h
  | nils => exact .nils
  | ptr h => exact .ptr (hρ _ _ h)
  | sl hx hl hc h0 => exact .sl (hρ _ _ hx) hl hc h0
  | ext vs hl hn hp ho hA _ ih =>
    refine .ext vs hl hn hp ho (fun hne => ?_) ih
    obtain ⟨a, e, hs, hc⟩ := hA hne
    exact ⟨a, e, hS _ hs, fun j hj => hcell _ _ (by rw [hblk]; exact hs) (hc j hj)⟩
  | eptr vs hp ho hs hA _ ih =>
    refine .eptr vs hp ho (fun hne => hS _ (hs hne)) (fun j hj => hcell _ _ (by rw [hblk]; exact hs (by intro e; subst e; simp at hj)) (hA j hj)) ih
  | agg hl ho _ ih => exact .agg hl ho ih
  | tup hl _ ih => exact .tup hl ih
  | fn hl _ ih => exact .fn hl ih
  | junk => exact .junk

/-- A value of one cell. -/
def oneV : Value → Prop
  | .agg _ | .tuple _ => False
  | _ => True

theorem Rep.oneV {S : Nat → Prop} {ρ : Map} {w : World} {a : AV} {v : Value} (h : Rep S ρ w a v) (ho : one a = true) : oneV v := by
  cases h with
  | val h => cases ‹Value› <;> first | trivial | simp [flat] at h
  | agg => simp [one] at ho
  | tup => simp [one] at ho
  | junk => simp [one] at ho
  | _ => trivial

/-- Row r lies where x says. -/
def RowOk (S : Nat → Prop) (ρ : Map) (w : World) : Option Loc → Row → Prop
  | none, r => r.cells = [] ∧ r.ty = .nil
  | some L, r => r.ty ≠ .nil ∧ L.size = r.cells.length ∧ L.base + L.size ≤ L.bsz ∧ ∃ (cs : Array Value) (ty : TypeId) (fr : Nat × Nat),
      w.heap[L.blk]? = some (.cells cs ty fr) ∧ cs.size = L.bsz ∧ (∀ i, i < L.bsz → ¬(fr.1 ≤ i ∧ i < fr.2)) ∧ (∀ t, r.ty = .is t → t = ty) ∧
      (∀ c ∈ r.cells, one c = true) ∧ ∀ (j : Nat) (c : AV), r.cells[j]? = some c → ∃ v : Value, cs[L.base + j]? = some v ∧ Rep S ρ w c v

/-- The rows m of a frame lie in w's memory: O: the blocks that the frame may write. -/
structure MR (S O : Nat → Prop) (ρ : Map) (m : Rows) (w : World) : Prop where
  known : ∀ id r, m id = some r → ∃ x, ρ id = some x
  ok : ∀ id r x, m id = some r → r.live = true → ρ id = some x → RowOk S ρ w x r ∧ ∀ L, x = some L → O L.blk ∧ ¬ S L.blk
  inj : ∀ id id' r r' L L', m id = some r → m id' = some r' → r.live = true → r'.live = true → ρ id = some (some L) → ρ id' = some (some L') → L.blk = L'.blk → id = id'

/-- What a piece of a frame's work leaves as it was. -/
structure Kp (O : Nat → Prop) (w w' : World) : Prop where
  os : w'.os = w.os
  tape : w'.tape = w.tape
  output : w'.output = w.output
  size : w.heap.size ≤ w'.heap.size
  block : ∀ b, b < w.heap.size → ¬ O b → w'.heap[b]? = w.heap[b]?

theorem Kp.refl (O : Nat → Prop) (w : World) : Kp O w w := ⟨rfl, rfl, rfl, Nat.le_refl _, fun _ _ _ => rfl⟩
theorem Kp.trans {O : Nat → Prop} {a b c : World} (h : Kp O a b) (k : Kp O b c) : Kp O a c :=
  ⟨k.os.trans h.os, k.tape.trans h.tape, k.output.trans h.output, Nat.le_trans h.size k.size, fun i hi ho => (k.block i (Nat.lt_of_lt_of_le hi h.size) ho).trans (h.block i hi ho)⟩

/-- What holds of a frame all along: nothing that stands still may be written, and it is there; what is new may be written. -/
structure Fr (S O : Nat → Prop) (w : World) : Prop where
  lt : ∀ b, S b → b < w.heap.size
  no : ∀ b, S b → ¬ O b
  new : ∀ b, w.heap.size ≤ b → O b

theorem Fr.kp {S O : Nat → Prop} {w w' : World} (h : Fr S O w) (k : Kp O w w') : Fr S O w' :=
  ⟨fun b hb => Nat.lt_of_lt_of_le (h.lt b hb) k.size, h.no, fun b hb => h.new b (Nat.le_trans k.size hb)⟩

theorem Rep.kp {S O : Nat → Prop} {ρ ρ' : Map} {w w' : World} {a : AV} {v : Value} (h : Rep S ρ w a v) (f : Fr S O w) (k : Kp O w w') (hρ : ρ.le ρ') : Rep S ρ' w' a v :=
  h.mono hρ (fun _ h => h) (fun b hb => k.block b (f.lt b hb) (f.no b hb))

/-- A row whose block hasn't changed. -/
theorem RowOk.mono {S : Nat → Prop} {ρ ρ' : Map} {w w' : World} {x : Option Loc} {r : Row} (h : RowOk S ρ w x r) (hρ : ρ.le ρ')
    (hS : ∀ b, S b → w'.heap[b]? = w.heap[b]?) (hb : ∀ L, x = some L → w'.heap[L.blk]? = w.heap[L.blk]?) : RowOk S ρ' w' x r := by
  cases x with
  | none => exact h
  | some L =>
    obtain ⟨h1, h2, h3, cs, ty, fr, h4, h5, h6, h7, h8, h9⟩ := h
    refine ⟨h1, h2, h3, cs, ty, fr, (hb L rfl).trans h4, h5, h6, h7, h8, fun j c hj => ?_⟩
    obtain ⟨v, hv, hr⟩ := h9 j c hj
    exact ⟨v, hv, hr.mono hρ (fun _ h => h) hS⟩

/-- The rows of a frame behind an operation. -/
def lookupU : List (Nat × Row) → Nat → Option Row
  | [], _ => none
  | (i, r) :: us, id => if i = id then some r else lookupU us id

def applyM (m : Rows) (next : Nat) (e : Eff) : Rows := fun id =>
  match lookupU e.upd id with
  | some r => some r
  | none => if next ≤ id ∧ id < next + e.new.length then e.new[id - next]? else m id

/-- What an operation came to. -/
def Outc (S O : Nat → Prop) (ρ : Map) (w : World) (m : Rows) (next : Nat) (e : Eff) (v : Value) (w' : World) : Prop :=
  ∃ ρ' : Map, ρ.le ρ' ∧ (∀ id, ρ id = none → ¬(next ≤ id ∧ id < next + e.new.length) → ρ' id = none) ∧ Kp O w w' ∧ Rep S ρ' w' e.val v ∧ MR S O ρ' (applyM m next e) w'

theorem applyM_pure (m : Rows) (next : Nat) (v : AV) (us : List Nat) : applyM m next ⟨v, [], [], us⟩ = m := by
  funext id
  simp only [applyM, lookupU, List.length_nil, Nat.add_zero]
  rw [if_neg (by omega)]

theorem Outc.pure {S O : Nat → Prop} {ρ : Map} {w : World} {m : Rows} {next : Nat} {a : AV} {v : Value} {us : List Nat} (hm : MR S O ρ m w) (hr : Rep S ρ w a v) :
    Outc S O ρ w m next ⟨a, [], [], us⟩ v w :=
  ⟨ρ, .refl _, fun _ h _ => h, .refl _ _, hr, by rw [applyM_pure]; exact hm⟩

end Go.AI

/-
  Values, operands, lists of values: what the machine of values (A1) holds stands for what the model's frame holds.
-/
namespace Go.AI

section
variable {S : Nat → Prop} {ρ : Map} {w : World}

/-- Two lists, side by side. -/
def RepL (S : Nat → Prop) (ρ : Map) (w : World) : List AV → List Value → Prop
  | [], [] => True
  | a :: as, v :: vs => Rep S ρ w a v ∧ RepL S ρ w as vs
  | _, _ => False

theorem RepL.length : ∀ {as : List AV} {vs : List Value}, RepL S ρ w as vs → as.length = vs.length
  | [], [], _ => rfl
  | _ :: as, _ :: vs, h => by simp [RepL.length h.2]
  | [], _ :: _, h => h.elim
  | _ :: _, [], h => h.elim

theorem RepL.get : ∀ {as : List AV} {vs : List Value}, RepL S ρ w as vs → ∀ (j : Nat) (c : AV) (v : Value), as[j]? = some c → vs[j]? = some v → Rep S ρ w c v
  | [], [], _, j, c, v, h, _ => by simp at h
  | _ :: as, _ :: vs, h, 0, c, v, h1, h2 => by
    simp at h1 h2
    subst h1
    subst h2
    exact h.1
  | _ :: as, _ :: vs, h, j + 1, c, v, h1, h2 => RepL.get h.2 j c v (by simpa using h1) (by simpa using h2)
  | [], _ :: _, h, _, _, _, _, _ => h.elim
  | _ :: _, [], h, _, _, _, _, _ => h.elim

theorem RepL.mk : ∀ {as : List AV} {vs : List Value}, as.length = vs.length → (∀ (j : Nat) (c : AV) (v : Value), as[j]? = some c → vs[j]? = some v → Rep S ρ w c v) → RepL S ρ w as vs
  | [], [], _, _ => trivial
  | a :: as, v :: vs, hl, h => ⟨h 0 a v rfl rfl, RepL.mk (by simpa using hl) (fun j c u h1 h2 => h (j + 1) c u (by simpa using h1) (by simpa using h2))⟩
  | [], _ :: _, hl, _ => by simp at hl
  | _ :: _, [], hl, _ => by simp at hl

theorem RepL.mono {S' : Nat → Prop} {ρ' : Map} {w' : World} (hρ : ρ.le ρ') (hS : ∀ b, S b → S' b) (hw : ∀ b, S b → w'.heap[b]? = w.heap[b]?) :
    ∀ {as : List AV} {vs : List Value}, RepL S ρ w as vs → RepL S' ρ' w' as vs
  | [], [], _ => trivial
  | _ :: _, _ :: _, h => ⟨h.1.mono hρ hS hw, RepL.mono hρ hS hw h.2⟩
  | [], _ :: _, h => h.elim
  | _ :: _, [], h => h.elim

theorem RepL.append : ∀ {as bs : List AV} {vs us : List Value}, RepL S ρ w as vs → RepL S ρ w bs us → RepL S ρ w (as ++ bs) (vs ++ us)
  | [], _, [], _, _, k => k
  | _ :: _, _, _ :: _, _, h, k => ⟨h.1, RepL.append h.2 k⟩
  | [], _, _ :: _, _, h, _ => h.elim
  | _ :: _, _, [], _, h, _ => h.elim

theorem RepL.drop (n : Nat) : ∀ {as : List AV} {vs : List Value}, RepL S ρ w as vs → RepL S ρ w (as.drop n) (vs.drop n) := by
  induction n with
  | zero => intro as vs h; simpa using h
  | succ n ih =>
    intro as vs h
    match as, vs, h with
    | [], [], _ => trivial
    | _ :: as, _ :: vs, h => simpa using ih h.2

theorem RepL.take (n : Nat) : ∀ {as : List AV} {vs : List Value}, RepL S ρ w as vs → RepL S ρ w (as.take n) (vs.take n) := by
  induction n with
  | zero => intro as vs _; simp [RepL]
  | succ n ih =>
    intro as vs h
    match as, vs, h with
    | [], [], _ => trivial
    | _ :: as, _ :: vs, h => exact ⟨h.1, ih h.2⟩

theorem RepL.set : ∀ {as : List AV} {vs : List Value} (i : Nat) {a : AV} {v : Value}, RepL S ρ w as vs → Rep S ρ w a v → RepL S ρ w (as.set i a) (vs.set i v)
  | [], [], _, _, _, _, _ => trivial
  | _ :: _, _ :: _, 0, _, _, h, k => ⟨k, h.2⟩
  | _ :: _, _ :: _, i + 1, _, _, h, k => ⟨h.1, RepL.set i h.2 k⟩
  | [], _ :: _, _, _, _, h, _ => h.elim
  | _ :: _, [], _, _, _, h, _ => h.elim

theorem Rep.agg_of {cs : List AV} {vs : Array Value} (h : RepL S ρ w cs vs.toList) (ho : ∀ c ∈ cs, one c = true) : Rep S ρ w (.agg cs) (.agg vs) :=
  .agg (by simpa using h.length) ho (fun j c v h1 h2 => h.get j c v h1 (by simpa using h2))
theorem Rep.tup_of {cs : List AV} {vs : Array Value} (h : RepL S ρ w cs vs.toList) : Rep S ρ w (.tup cs) (.tuple vs) :=
  .tup (by simpa using h.length) (fun j c v h1 h2 => h.get j c v h1 (by simpa using h2))
theorem Rep.fn_of {f : FuncId} {cs : List AV} {vs : Array Value} (h : RepL S ρ w cs vs.toList) : Rep S ρ w (.fn f cs) (.func (.func f) #[] vs) :=
  .fn (by simpa using h.length) (fun j c v h1 h2 => h.get j c v h1 (by simpa using h2))

theorem Rep.agg_inv {cs : List AV} {v : Value} (h : Rep S ρ w (.agg cs) v) : ∃ vs : Array Value, v = .agg vs ∧ RepL S ρ w cs vs.toList ∧ ∀ c ∈ cs, one c = true := by
  cases h with
  | agg hl ho hr => exact ⟨_, rfl, RepL.mk (by simpa using hl) (fun j c v h1 h2 => hr j c v h1 (by simpa using h2)), ho⟩
theorem Rep.tup_inv {cs : List AV} {v : Value} (h : Rep S ρ w (.tup cs) v) : ∃ vs : Array Value, v = .tuple vs ∧ RepL S ρ w cs vs.toList := by
  cases h with
  | tup hl hr => exact ⟨_, rfl, RepL.mk (by simpa using hl) (fun j c v h1 h2 => hr j c v h1 (by simpa using h2))⟩
theorem Rep.fn_inv {f : FuncId} {cs : List AV} {v : Value} (h : Rep S ρ w (.fn f cs) v) : ∃ vs : Array Value, v = .func (.func f) #[] vs ∧ RepL S ρ w cs vs.toList := by
  cases h with
  | fn hl hr => exact ⟨_, rfl, RepL.mk (by simpa using hl) (fun j c v h1 h2 => hr j c v h1 (by simpa using h2))⟩
theorem Rep.val_inv {u v : Value} (h : Rep S ρ w (.val u) v) : v = u ∧ flat u = true := by
  cases h with
  | val h => exact ⟨rfl, h⟩

/-- The cells of a value stand for the value's cells. -/
theorem Rep.cells {a : AV} {v : Value} (h : Rep S ρ w a v) (ho : (cellsOf a).all one = true) : RepL S ρ w (cellsOf a) v.cells.toList := by
  cases h with
  | agg hl _ hr => exact RepL.mk (by simpa [cellsOf, Value.cells] using hl) (fun j c v h1 h2 => hr j c v (by simpa [cellsOf] using h1) (by simpa [Value.cells] using h2))
  | val h => cases ‹Value› <;> first | exact ⟨.val h, trivial⟩ | simp [flat] at h
  | tup => simp [cellsOf, one] at ho
  | junk => simp [cellsOf, one] at ho
  | nils => exact ⟨.nils, trivial⟩
  | ptr h => exact ⟨.ptr h, trivial⟩
  | sl hx hl hc h0 => exact ⟨.sl hx hl hc h0, trivial⟩
  | ext vs hl hn hp ho' hA hr => exact ⟨.ext vs hl hn hp ho' hA hr, trivial⟩
  | eptr vs hp ho' hs hA hr => exact ⟨.eptr vs hp ho' hs hA hr, trivial⟩
  | fn hl hr => exact ⟨.fn hl hr, trivial⟩

theorem RepL.oneV : ∀ {as : List AV} {vs : List Value}, RepL S ρ w as vs → (∀ c ∈ as, one c = true) → ∀ v ∈ vs, v.oneCell' = true
  | [], [], _, _, v, hv => by cases hv
  | a :: as, u :: vs, h, ho, v, hv => by
    rcases List.mem_cons.1 hv with rfl | hv
    · have := h.1.oneV (ho a (by simp))
      cases v <;> first | rfl | exact this.elim
    · exact RepL.oneV h.2 (fun c hc => ho c (by simp [hc])) v hv
  | [], _ :: _, h, _, _, _ => h.elim
  | _ :: _, [], h, _, _, _ => h.elim

/-! ### constants -/
theorem cellAV_rep {v : Value} {a : AV} (h : cellAV v = some a) : Rep S ρ w a v ∧ one a = true := by
  unfold cellAV at h
  split at h
  · injection h with h; subst h; exact ⟨.nils, rfl⟩
  · split at h
    · injection h with h; subst h; exact ⟨.val ‹_›, rfl⟩
    · cases h

theorem cellsAV_rep : ∀ {vs : List Value} {as : List AV}, cellsAV vs = some as → RepL S ρ w as vs ∧ ∀ c ∈ as, one c = true
  | [], as, h => by simp [cellsAV] at h; subst h; exact ⟨trivial, fun _ h => by cases h⟩
  | v :: vs, as, h => by
    simp only [cellsAV] at h
    cases h1 : cellAV v with
    | none => simp [h1] at h
    | some a =>
      cases h2 : cellsAV vs with
      | none => simp [h1, h2] at h
      | some bs =>
        simp [h1, h2] at h
        subst h
        obtain ⟨k1, k2⟩ := cellAV_rep (S := S) (ρ := ρ) (w := w) h1
        obtain ⟨k3, k4⟩ := cellsAV_rep h2
        exact ⟨⟨k1, k3⟩, fun c hc => by rcases List.mem_cons.1 hc with rfl | hc <;> first | exact k2 | exact k4 c hc⟩

theorem constAV_rep {v : Value} {a : AV} (h : constAV v = some a) : Rep S ρ w a v := by
  unfold constAV at h
  split at h
  · rename_i cs
    cases h1 : cellsAV cs.toList with
    | none => simp [h1] at h
    | some as =>
      simp [h1] at h
      subst h
      obtain ⟨k1, k2⟩ := cellsAV_rep (S := S) (ρ := ρ) (w := w) h1
      exact .agg_of k1 k2
  · split at h
    · rename_i vs hv
      injection h with h
      subst h
      have : vs = #[] := Array.eq_empty_of_size_eq_zero hv
      subst this
      exact .tup_of trivial
    · cases h
  · exact (cellAV_rep h).1

/-! ### operands -/
/-- The package-level variables hold what the machine has of them. -/
def GlobOk (E : Env) (S : Nat → Prop) (w : World) : Prop := ∀ g cs, E.G g = some cs → ∀ ρ, Rep S ρ w (.eptr cs) (.pointer (some ⟨g, 0, none⟩))

def TmpsOk (S : Nat → Prop) (ρ : Map) (w : World) (t : Nat → AV) (a : Act) : Prop := ∀ d, Rep S ρ w (t d) (a.tmps.getD d undef)

theorem ev_rep {E : Env} {t : Nat → AV} {a : Act} (ht : TmpsOk S ρ w t a) (hg : GlobOk E S w) {x : Operand} {v : AV} (h : ev E t x = some v) : Rep S ρ w v (a.eval x) := by
  cases x with
  | tmp d => simp [ev] at h; subst h; exact ht d
  | const c => exact constAV_rep h
  | global g =>
    simp only [ev] at h
    cases hG : E.G g with
    | none => simp [hG] at h
    | some cs => simp [hG] at h; subst h; exact hg g cs hG ρ
  | func f => simp [ev] at h; subst h; exact .fn_of trivial

theorem evs_rep {E : Env} {t : Nat → AV} {a : Act} (ht : TmpsOk S ρ w t a) (hg : GlobOk E S w) : ∀ {xs : List Operand} {vs : List AV}, evs E t xs = some vs → RepL S ρ w vs (xs.map a.eval)
  | [], vs, h => by simp [evs] at h; subst h; trivial
  | x :: xs, vs, h => by
    simp only [evs] at h
    cases h1 : ev E t x with
    | none => simp [h1] at h
    | some v =>
      cases h2 : evs E t xs with
      | none => simp [h1, h2] at h
      | some us =>
        simp [h1, h2] at h
        subst h
        exact ⟨ev_rep ht hg h1, evs_rep ht hg h2⟩

/-! ### rows for nil slices -/
theorem deNilL_new (next : Nat) (cs : List AV) : (∀ r ∈ (deNilL next cs).2, r = ⟨[], .nil, true⟩) ∧ (deNilL next cs).1.length = cs.length ∧ ((∀ c ∈ cs, one c = true) → ∀ c ∈ (deNilL next cs).1, one c = true) := by
  fun_induction deNilL next cs with
  | case1 => exact ⟨fun _ h => (by cases h), rfl, fun _ => fun _ h => (by cases h)⟩
  | case2 next cs ih =>
    obtain ⟨h1, h2, h3⟩ := ih
    refine ⟨fun r hr => ?_, by simp [h2], fun ho c hc => ?_⟩
    · rcases List.mem_cons.1 hr with rfl | hr <;> first | rfl | exact h1 r hr
    · rcases List.mem_cons.1 hc with rfl | hc <;> first | rfl | exact h3 (fun c hc => ho c (by simp [hc])) c hc
  | case3 next c cs hne ih =>
    obtain ⟨h1, h2, h3⟩ := ih
    refine ⟨h1, by simp [h2], fun ho x hx => ?_⟩
    rcases List.mem_cons.1 hx with rfl | hx
    · exact ho x (by simp)
    · exact h3 (fun c hc => ho c (by simp [hc])) x hx

theorem deNilL_rep (next : Nat) (cs : List AV) : ∀ (vs : List Value), RepL S ρ w cs vs → (∀ k, k < (deNilL next cs).2.length → ρ (next + k) = some none) → RepL S ρ w (deNilL next cs).1 vs := by
  fun_induction deNilL next cs with
  | case1 => exact fun vs h _ => h
  | case2 next cs ih =>
    intro vs h hk
    match vs, h with
    | v :: vs, h =>
      refine ⟨?_, ih vs h.2 (fun k hk' => by have := hk (k + 1) (by simpa using hk'); rwa [show next + (k + 1) = next + 1 + k by omega] at this)⟩
      cases h.1
      exact .sl (by simpa using hk 0 (by simp)) (Nat.le_refl _) (fun h => by omega) (fun _ L e => by cases e)
  | case3 next c cs hne ih =>
    intro vs h hk
    match vs, h with
    | v :: vs, h => exact ⟨h.1, ih vs h.2 hk⟩

theorem deNil_new (next : Nat) (a : AV) : ∀ r ∈ (deNil next a).2, r = ⟨[], .nil, true⟩ := by
  unfold deNil
  split
  · intro r hr; simpa using hr
  · exact (deNilL_new _ _).1
  · intro r hr; cases hr

theorem deNil_rep (next : Nat) {a : AV} {v : Value} (h : Rep S ρ w a v) (hk : ∀ k, k < (deNil next a).2.length → ρ (next + k) = some none) : Rep S ρ w (deNil next a).1 v := by
  unfold deNil at hk ⊢
  split
  · cases h
    exact .sl (by simpa using hk 0 (by simp)) (Nat.le_refl _) (fun h => by omega) (fun _ L e => by cases e)
  · obtain ⟨vs, rfl, h1, h2⟩ := h.agg_inv
    exact .agg_of (deNilL_rep _ _ _ h1 hk) ((deNilL_new _ _).2.2 h2)
  · exact h
end
end Go.AI

/-
  Rows in memory: what stays where a block is made or written; the cells that a row's pointers and slices lead to.
-/
namespace Go.AI

section
variable {S O : Nat → Prop} {ρ ρ' : Map} {w w' : World} {m m' : Rows}

theorem heap_lt {b : Nat} {o : Obj} (h : w.heap[b]? = some o) : b < w.heap.size := by
  rcases Nat.lt_or_ge b w.heap.size with h' | h'
  · exact h'
  · rw [Array.getElem?_eq_none h'] at h; cases h

theorem RowOk.lt {L : Loc} {r : Row} (h : RowOk S ρ w (some L) r) : L.blk < w.heap.size := by
  obtain ⟨_, _, _, cs, ty, fr, h4, _⟩ := h
  exact heap_lt h4

/-- Each row stays, or is told anew. -/
theorem MR.step (h : MR S O ρ m w) (hρ : ρ.le ρ') (hS : ∀ b, S b → w'.heap[b]? = w.heap[b]?)
    (hA : ∀ id r, m' id = some r → (m id = some r ∧ (r.live = true → ∀ L, ρ id = some (some L) → w'.heap[L.blk]? = w.heap[L.blk]?)) ∨
      ((∃ x, ρ' id = some x) ∧ (r.live = true → ∀ x, ρ' id = some x → RowOk S ρ' w' x r ∧ ∀ L, x = some L → O L.blk ∧ ¬ S L.blk)))
    (hI : ∀ id id' r r' L L', m' id = some r → m' id' = some r' → r.live = true → r'.live = true → ρ' id = some (some L) → ρ' id' = some (some L') → L.blk = L'.blk → id = id') :
    MR S O ρ' m' w' := by
  refine ⟨fun id r hr => ?_, fun id r x hr hl hx => ?_, hI⟩
  · rcases hA id r hr with ⟨h1, _⟩ | ⟨h1, _⟩
    · obtain ⟨x, hx⟩ := h.known id r h1
      exact ⟨x, hρ _ _ hx⟩
    · exact h1
  · rcases hA id r hr with ⟨h1, h2⟩ | ⟨_, h2⟩
    · obtain ⟨y, hy⟩ := h.known id r h1
      have : x = y := by have := hρ _ _ hy; rw [hx] at this; exact Option.some.inj this
      subst this
      obtain ⟨h3, h4⟩ := h.ok id r x h1 hl hy
      exact ⟨h3.mono hρ hS (fun L e => h2 hl L (by rw [hy, e])), h4⟩
    · exact h2 hl x hx

def Map.add (ρ : Map) (next : Nat) (xs : List (Option Loc)) : Map := fun id => if next ≤ id ∧ id < next + xs.length then xs[id - next]? else ρ id

theorem Map.add_at {ρ : Map} {next : Nat} {xs : List (Option Loc)} {k : Nat} (hk : k < xs.length) : ρ.add next xs (next + k) = xs[k]? := by
  unfold Map.add
  rw [if_pos (by omega), Nat.add_sub_cancel_left]
theorem Map.add_else {ρ : Map} {next : Nat} {xs : List (Option Loc)} {id : Nat} (h : ¬(next ≤ id ∧ id < next + xs.length)) : ρ.add next xs id = ρ id := by
  unfold Map.add
  rw [if_neg h]
theorem Map.le_add {ρ : Map} {next : Nat} {xs : List (Option Loc)} (hf : ∀ k, k < xs.length → ρ (next + k) = none) : ρ.le (ρ.add next xs) := by
  intro id x hx
  rw [Map.add_else]
  · exact hx
  · rintro ⟨h1, h2⟩
    have := hf (id - next) (by omega)
    rw [show next + (id - next) = id by omega, hx] at this
    cases this

/-- Rows that are made, in new blocks or none. -/
theorem MR.news (h : MR S O ρ m w) (f : Fr S O w) (hb : ∀ b, b < w.heap.size → w'.heap[b]? = w.heap[b]?) {new : List Row} {xs : List (Option Loc)} {next : Nat}
    (hlen : xs.length = new.length) (hf : ∀ k, k < new.length → ρ (next + k) = none)
    (hok : ∀ (k : Nat) (r : Row) (x : Option Loc), new[k]? = some r → xs[k]? = some x → RowOk S (ρ.add next xs) w' x r ∧ ∀ L, x = some L → w.heap.size ≤ L.blk)
    (hd : ∀ (j k : Nat) (L L' : Loc), xs[j]? = some (some L) → xs[k]? = some (some L') → L.blk = L'.blk → j = k) (v : AV) (us : List Nat) :
    MR S O (ρ.add next xs) (applyM m next ⟨v, [], new, us⟩) w' := by
  have hle : ρ.le (ρ.add next xs) := Map.le_add (fun k hk => hf k (by omega))
  have hat : ∀ id r, applyM m next ⟨v, [], new, us⟩ id = some r → (next ≤ id ∧ id < next + new.length ∧ new[id - next]? = some r) ∨ (¬(next ≤ id ∧ id < next + new.length) ∧ m id = some r) := by
    intro id r hr
    simp only [applyM, lookupU] at hr
    by_cases hc : next ≤ id ∧ id < next + new.length
    · rw [if_pos hc] at hr; exact .inl ⟨hc.1, hc.2, hr⟩
    · rw [if_neg hc] at hr; exact .inr ⟨hc, hr⟩
  have hlive : ∀ id r L, m id = some r → r.live = true → ρ id = some (some L) → L.blk < w.heap.size := fun id r L h1 h2 h3 => (h.ok id r _ h1 h2 h3).1.lt
  have hxs : ∀ id, next ≤ id → id < next + new.length → ∀ x, ρ.add next xs id = some x → xs[id - next]? = some x := by
    intro id h1 h2 x hx
    rw [show id = next + (id - next) by omega, Map.add_at (by omega)] at hx
    exact hx
  refine h.step hle (fun b hs => hb b (f.lt b hs)) (fun id r hr => ?_) (fun id id' r r' L L' hr hr' hl hl' hx hx' e => ?_)
  · rcases hat id r hr with ⟨h1, h2, h3⟩ | ⟨h1, h2⟩
    · refine .inr ⟨?_, fun _ x hx => ?_⟩
      · rw [show id = next + (id - next) by omega, Map.add_at (by omega)]
        exact ⟨_, List.getElem?_eq_getElem (by omega)⟩
      · obtain ⟨k1, k2⟩ := hok _ r x h3 (hxs id h1 h2 x hx)
        exact ⟨k1, fun L e => ⟨f.new _ (k2 L e), fun hs => by have := f.lt _ hs; have := k2 L e; omega⟩⟩
    · exact .inl ⟨h2, fun hl L hL => hb _ (hlive id r L h2 hl hL)⟩
  · rcases hat id r hr with ⟨h1, h2, h3⟩ | ⟨h1, h2⟩ <;> rcases hat id' r' hr' with ⟨h1', h2', h3'⟩ | ⟨h1', h2'⟩
    · have := hd _ _ L L' (hxs id h1 h2 _ hx) (hxs id' h1' h2' _ hx') e
      omega
    · have k := (hok _ r _ h3 (hxs id h1 h2 _ hx)).2 L rfl
      rw [Map.add_else (by omega)] at hx'
      have := hlive id' r' L' h2' hl' hx'
      omega
    · have k := (hok _ r' _ h3' (hxs id' h1' h2' _ hx')).2 L' rfl
      rw [Map.add_else (by omega)] at hx
      have := hlive id r L h2 hl hx
      omega
    · rw [Map.add_else (by omega)] at hx hx'
      exact h.inj id id' r r' L L' h2 h2' hl hl' hx hx' e

theorem nil_rowOk {r : Row} (h : r = ⟨[], .nil, true⟩) : RowOk S ρ w none r := by subst h; exact ⟨rfl, rfl⟩

/-- Only rows of nil slices are made. -/
theorem Outc.nils (hm : MR S O ρ m w) (f : Fr S O w) {next : Nat} {new : List Row} (hn : ∀ r ∈ new, r = ⟨[], .nil, true⟩) (hf : ∀ k, k < new.length → ρ (next + k) = none)
    {a : AV} {v : Value} (us : List Nat) (hr : ∀ ρ' : Map, ρ.le ρ' → (∀ k, k < new.length → ρ' (next + k) = some none) → Rep S ρ' w a v) : Outc S O ρ w m next ⟨a, [], new, us⟩ v w := by
  have hle : ρ.le (ρ.add next (List.replicate new.length none)) := Map.le_add (fun k hk => hf k (by simpa using hk))
  refine ⟨ρ.add next (List.replicate new.length none), hle, fun id h1 h2 => ?_, .refl _ _, hr _ hle (fun k hk => ?_), ?_⟩
  · rw [Map.add_else (by simpa using h2)]; exact h1
  · rw [Map.add_at (by simpa using hk)]; simp [hk]
  · refine hm.news f (fun _ _ => rfl) (by simp) hf (fun k r x h1 h2 => ?_) (fun j k L L' h1 _ _ => ?_) a us
    · have : x = none := by
        have := List.mem_of_getElem? h2
        simpa using (List.mem_replicate.1 this).2
      subst this
      exact ⟨nil_rowOk (hn r (List.mem_of_getElem? h1)), fun L e => by cases e⟩
    · have := (List.mem_replicate.1 (List.mem_of_getElem? h1)).2
      cases this

/-- A new block: a row of its own, and rows of nil slices. -/
theorem Outc.boxed (hm : MR S O ρ m w) (f : Fr S O w) {next : Nat} {cs : List AV} {ns : List Row} {ty : TypeId} (hn : ∀ r ∈ ns, r = ⟨[], .nil, true⟩)
    (hf : ∀ k, k < ns.length + 1 → ρ (next + k) = none) {arr : Array Value} {fr : Nat × Nat} (hh : w'.heap = w.heap.push (.cells arr ty fr))
    (hos : w'.os = w.os) (htp : w'.tape = w.tape) (hou : w'.output = w.output) (hfr : ∀ i, i < arr.size → ¬(fr.1 ≤ i ∧ i < fr.2)) (hl : cs.length ≤ arr.size)
    (ho : ∀ c ∈ cs, one c = true) {a : AV} {v : Value} (us : List Nat)
    (hr : ∀ ρ' : Map, ρ.le ρ' → ρ' next = some (some ⟨w.heap.size, cs.length, arr.size⟩) → (∀ k, k < ns.length → ρ' (next + 1 + k) = some none) →
      RepL S ρ' w cs (arr.toList.take cs.length) ∧ Rep S ρ' w' a v) : Outc S O ρ w m next ⟨a, [], ⟨cs, .is ty, true⟩ :: ns, us⟩ v w' := by
  have hb : ∀ b, b < w.heap.size → w'.heap[b]? = w.heap[b]? := fun b hb => by rw [hh, Array.getElem?_push, if_neg (by omega)]
  have hkp : Kp O w w' := ⟨hos, htp, hou, by rw [hh]; simp, fun b h _ => hb b h⟩
  let xs : List (Option Loc) := some ⟨w.heap.size, cs.length, arr.size⟩ :: List.replicate ns.length none
  have hlen : xs.length = ns.length + 1 := by simp [xs]
  have hle : ρ.le (ρ.add next xs) := Map.le_add (fun k hk => hf k (by omega))
  have h0 : ρ.add next xs next = some (some ⟨w.heap.size, cs.length, arr.size⟩) := Map.add_at (next := next) (k := 0) (by omega)
  have hk : ∀ k, k < ns.length → ρ.add next xs (next + 1 + k) = some none := fun k hk => by
    rw [show next + 1 + k = next + (k + 1) by omega, Map.add_at (by omega)]
    simp [xs, hk]
  obtain ⟨k1, k2⟩ := hr _ hle h0 hk
  refine ⟨ρ.add next xs, hle, fun id h1 h2 => ?_, hkp, k2, ?_⟩
  · rw [Map.add_else (by simpa [xs] using h2)]; exact h1
  · refine hm.news f hb (by simp [xs]) (by simpa using hf) (fun k r x h1 h2 => ?_) (fun j k L L' h1 h2 _ => ?_) a us
    · cases k with
      | zero =>
        simp at h1
        simp [xs] at h2
        subst h1
        subst h2
        refine ⟨⟨by simp, rfl, by simpa using hl, arr, ty, fr, by rw [hh]; simp, rfl, hfr, fun t e => by simpa using e.symm, ho, fun j c hj => ?_⟩, fun L e => by cases e; exact Nat.le_refl _⟩
        have hj' : j < cs.length := (List.getElem?_eq_some_iff.1 hj).1
        refine ⟨arr[j]'(by omega), by simp, ?_⟩
        exact (k1.get j c _ hj (by rw [List.getElem?_take_of_lt hj', Array.getElem?_toList]; simp)).mono (.refl _) (fun _ h => h) (fun b hs => hb b (f.lt b hs))
      | succ k =>
        have : x = none := by
          simp [xs] at h2
          have := (List.getElem?_eq_some_iff.1 h2)
          obtain ⟨q, hq⟩ := this
          simpa using hq.symm
        subst this
        exact ⟨nil_rowOk (hn r (List.mem_of_getElem? (by simpa using h1))), fun L e => by cases e⟩
    · have one_only : ∀ j L, xs[j]? = some (some L) → j = 0 := by
        intro j L h
        cases j with
        | zero => rfl
        | succ j =>
          simp [xs] at h
          obtain ⟨q, hq⟩ := List.getElem?_eq_some_iff.1 h
          simp at hq
      rw [one_only j L h1, one_only k L' h2]
end
end Go.AI

/-
  One operation: what the machine of values says of it, the model does. First: operations that turn no memory.
-/
set_option linter.unusedVariables false
set_option linter.unusedSimpArgs false
namespace Go.AI

section
variable {P : Program} {S O : Nat → Prop} {ρ ρ' : Map} {w w' : World} {m : Rows} {a : Act} {Q : Exit → Act → World → Prop}

def OpK (S O : Nat → Prop) (ρ : Map) (w : World) (m : Rows) (next : Nat) (e : Eff) (dst : Option Tmp) (a : Act) : Act → World → Prop :=
  fun a' w' => ∃ v, a' = a.put dst v ∧ Outc S O ρ w m next e v w'

theorem wp_value {o : Oper} {K : Act → World → Prop} {v : Value} (h : (execOp a.eval o).run P w = .ok (.value v) w') (hk : K (a.put o.dst v) w') : o.wp P a w K Q := by
  unfold Oper.wp
  rw [h]
  exact hk
theorem wp_skip' {o : Oper} {K : Act → World → Prop} (h : (execOp a.eval o).run P w = .ok .skip w') (hk : K (a.put o.dst undef) w') : o.wp P a w K Q := by
  unfold Oper.wp
  rw [h]
  exact hk

theorem run_v {s : Sem Value} {v : Value} (h : s.run P w = .ok v w') : (do pure (Next.value (← s)) : Sem Next).run P w = .ok (.value v) w' := by
  simp [Sem.run_bind, h, Result.andThen]

theorem run_size {t : TypeId} {n : Nat} (h : szOf P t = some n) : (sizeOf t).run P w = .ok n w := by
  unfold szOf at h
  cases hi : P.info? t with
  | none => simp [hi] at h
  | some i => simp [hi] at h; subst h; simp [sizeOf, typeInfo, hi]

theorem run_agg {t : TypeId} {b : Bool} (h : aggT P t = some b) : (isAgg t).run P w = .ok b w := by
  unfold aggT at h
  cases hu : P.underlying t with
  | none => simp [hu] at h
  | some d =>
    simp only [hu] at h
    simp only [isAgg, Sem.run_bind, run_underlying hu, Result.andThen_ok]
    cases d <;> simp at h <;> subst h <;> rfl

theorem run_under {t : TypeId} {d : TypeDesc} (h : P.underlying t = some d) : (underlying t).run P w = .ok d w := run_underlying h w

theorem flat_int (k : IntKind) (n : Int) : flat (.int k n) = true := rfl
theorem flat_bool (b : Bool) : flat (.bool b) = true := rfl
theorem flat_string (s : ByteArray) : flat (.string s) = true := rfl

/-! ### arithmetic -/
theorem intA_run {op : BinOp} {k : IntKind} {x y : Int} {v : AV} (h : intA op k x y = some v) (hs : op ≠ .shl) (hs' : op ≠ .shr) (t : TypeId) : ∃ u, v = .val u ∧ flat u = true ∧ (binOp op t (.int k x) (.int k y)).run P w = .ok u w := by
  cases op <;> simp only [intA] at h <;> first
    | (split at h
       · cases h
       · injection h with h; subst h; refine ⟨_, rfl, rfl, ?_⟩; simp [binOp, Op.intDiv, *])
    | (injection h with h; subst h; refine ⟨_, rfl, rfl, ?_⟩; simp [binOp, Op.intArith, Op.intBits, Op.intCmp]; done)
    | exact absurd rfl hs
    | exact absurd rfl hs'

theorem shiftA_run {op : BinOp} (hop : op = .shl ∨ op = .shr) {k k' : IntKind} {x y : Int} {v : AV} (h : shiftA op k x y = some v) (t : TypeId) : ∃ u, v = .val u ∧ flat u = true ∧ (binOp op t (.int k x) (.int k' y)).run P w = .ok u w := by
  rcases hop with rfl | rfl <;> simp only [shiftA] at h <;> split at h <;> first
    | (injection h with h; subst h; refine ⟨_, rfl, rfl, ?_⟩; simp [binOp, Op.shift, *]; done)
    | cases h

theorem toList_eq (a b : ByteArray) : (a.toList == b.toList) = (a.data.toList == b.data.toList) := by
  rw [ByteArray.toList_eq, ByteArray.toList_eq]

theorem strA_run {op : BinOp} {x y : ByteArray} {v : AV} (h : strA op x y = some v) (t : TypeId) : ∃ u, v = .val u ∧ flat u = true ∧ (binOp op t (.string x) (.string y)).run P w = .ok u w := by
  cases op <;> simp only [strA] at h <;> first
    | (split at h
       · cases h
       · rename_i hn
         injection h with h; subst h; refine ⟨_, rfl, rfl, ?_⟩
         have : ¬ (((x.size + y.size : Nat) : Int) > IntKind.i64.max) := hn
         simp only [binOp, Op.stringOp, if_neg this]; rfl)
    | (injection h with h; subst h; refine ⟨_, rfl, rfl, ?_⟩; simp only [binOp, Op.stringOp, toList_eq]; rfl)
    | cases h

/-! ### parts, equality of structs -/
theorem partA_run {t : TypeId} {cs : List AV} {vs : Array Value} {off : Nat} {a : AV} (h : partA P t cs off = some a) (hr : RepL S ρ w cs vs.toList) (ho : ∀ c ∈ cs, one c = true) :
    ∃ v, (part t vs off).run P w' = .ok v w' ∧ Rep S ρ w a v := by
  unfold partA at h
  split at h
  · rename_i n h1 h2
    injection h with h
    subst h
    refine ⟨.agg (vs.extract off (off + n)), ?_, .agg_of ?_ (fun c hc => ho c (List.mem_of_mem_drop (List.mem_of_mem_take hc)))⟩
    · simp [part, run_agg h1, run_size h2, Result.andThen]
    · have := (hr.drop off).take n
      rw [Array.toList_extract]
      simpa [List.extract_eq_take_drop] using this
  · rename_i n h1 h2
    have hl := hr.length
    obtain ⟨hj, _⟩ := List.getElem?_eq_some_iff.1 h
    have hj' : off < vs.size := by rw [hl] at hj; simpa using hj
    refine ⟨vs[off], ?_, hr.get off a _ h (by simp [hj'])⟩
    simp [part, run_agg h1, Result.andThen, hj']
  · cases h

theorem one_partA {t : TypeId} {cs : List AV} {off : Nat} {a : AV} (h : partA P t cs off = some a) (ho : ∀ c ∈ cs, one c = true) : (cellsOf a).all one = true := by
  unfold partA at h
  split at h
  · injection h with h
    subst h
    simp only [cellsOf, List.all_eq_true]
    exact fun c hc => ho c (List.mem_of_mem_drop (List.mem_of_mem_take hc))
  · have := ho a (List.mem_of_getElem? h)
    cases a <;> simp_all [cellsOf, one]
  · cases h

theorem eqIn_run : ∀ (d : Nat) (t : TypeId) (x y : AV) (b : Bool) (vx vy : Value), eqIn P d t x y = some b → Rep S ρ w x vx → Rep S ρ w y vy →
    (Op.equalIn d t vx vy).run P w = .ok b w := by
  intro d
  induction d with
  | zero => intro t x y b vx vy h; simp [eqIn] at h
  | succ d ih =>
    intro t x y b vx vy h hx hy
    simp only [eqIn] at h
    split at h
    · rename_i h1
      obtain ⟨rfl, _⟩ := hx.val_inv
      obtain ⟨rfl, _⟩ := hy.val_inv
      injection h with h
      subst h
      exact run_equalIn_bool' w d t _ _ h1
    · rename_i h1
      obtain ⟨rfl, _⟩ := hx.val_inv
      obtain ⟨rfl, _⟩ := hy.val_inv
      split at h
      · rename_i hk
        subst hk
        injection h with h
        subst h
        exact run_equalIn_int w d t _ _ _ _ h1
      · cases h
    · rename_i h1
      obtain ⟨rfl, _⟩ := hx.val_inv
      obtain ⟨rfl, _⟩ := hy.val_inv
      injection h with h
      subst h
      rw [run_equalIn_string w d t _ _ h1, toList_eq]
    · rename_i fields xs ys h1
      obtain ⟨as, rfl, hxs, hox⟩ := hx.agg_inv
      obtain ⟨bs, rfl, hys, hoy⟩ := hy.agg_inv
      split at h
      · cases h
      · rename_i hst
        have hf : P.fieldsOf t = fields := by simp [Program.fieldsOf, h1]
        rw [run_equalIn_agg w d t as bs (by rw [hf]; exact h1) (by simpa using hst), hf]
        clear hst h1 hf hx hy
        revert h
        generalize fields.toList = fs
        intro h
        induction fs with
        | nil => simp [eqFields] at h; subst h; simp [Op.eqFields]
        | cons f fs ihf =>
          simp only [eqFields] at h
          by_cases hn : f.name = "_"
          · rw [if_pos hn] at h
            simp only [Op.eqFields, hn]
            simpa using ihf h
          · rw [if_neg hn] at h
            cases h1 : partA P f.type xs f.offset with
            | none => simp [h1] at h
            | some a1 =>
              cases h2 : partA P f.type ys f.offset with
              | none => simp [h1, h2] at h
              | some b1 =>
                simp only [h1, h2] at h
                obtain ⟨v1, r1, k1⟩ := partA_run (w' := w) h1 hxs hox
                obtain ⟨v2, r2, k2⟩ := partA_run (w' := w) h2 hys hoy
                simp only [Op.eqFields]
                rw [if_pos hn]
                cases h3 : eqIn P d f.type a1 b1 with
                | none => simp [h3] at h
                | some q =>
                  have r3 := ih f.type a1 b1 q v1 v2 h3 k1 k2
                  cases q with
                  | true =>
                    simp only [h3] at h
                    simpa [r1, r2, r3, Result.andThen] using ihf h
                  | false =>
                    simp only [h3] at h
                    injection h with h
                    subst h
                    simp [r1, r2, r3, Result.andThen]
    · cases h

theorem eqGuard_none {op : BinOp} {t : TypeId} {x y : Operand} {a b : Value} (ha : ∀ cs, a ≠ .agg cs) (hb : a ≠ .nilIface) : (eqGuard op t x y a b).run P w = .ok () w := by
  cases op <;> simp [eqGuard] <;> cases a <;> simp_all

theorem binA_run {op : BinOp} {t : TypeId} {x y : AV} {v : AV} {vx vy : Value} (h : binA P op t x y = some v) (hx : Rep S ρ w x vx) (hy : Rep S ρ w y vy) (ox oy : Operand) :
    ∃ u, v = .val u ∧ flat u = true ∧ (do eqGuard op t ox oy vx vy; binOp op t vx vy : Sem Value).run P w = .ok u w := by
  unfold binA at h
  split at h
  · rename_i k a k' b
    obtain ⟨rfl, _⟩ := hx.val_inv
    obtain ⟨rfl, _⟩ := hy.val_inv
    have hg := eqGuard_none (P := P) (w := w) (op := op) (t := t) (x := ox) (y := oy) (a := .int k a) (b := .int k' b) (by simp) (by simp)
    simp only [Sem.run_bind, hg, Result.andThen_ok]
    split at h
    · exact shiftA_run (.inl rfl) h t
    · exact shiftA_run (.inr rfl) h t
    · split at h
      · rename_i hk
        subst hk
        exact intA_run h (by assumption) (by assumption) t
      · cases h
  · rename_i a b
    obtain ⟨rfl, _⟩ := hx.val_inv
    obtain ⟨rfl, _⟩ := hy.val_inv
    have hg := eqGuard_none (P := P) (w := w) (op := op) (t := t) (x := ox) (y := oy) (a := .string a) (b := .string b) (by simp) (by simp)
    simp only [Sem.run_bind, hg, Result.andThen_ok]
    exact strA_run h t
  · rename_i a b
    obtain ⟨rfl, _⟩ := hx.val_inv
    obtain ⟨rfl, _⟩ := hy.val_inv
    have hg := eqGuard_none (P := P) (w := w) (op := op) (t := t) (x := ox) (y := oy) (a := .bool a) (b := .bool b) (by simp) (by simp)
    simp only [Sem.run_bind, hg, Result.andThen_ok]
    split at h
    · rename_i h1
      injection h with h
      subst h
      refine ⟨_, rfl, rfl, ?_⟩
      have := run_equalIn_bool' (P := P) w 9999 t a b h1
      simp [binOp, Op.equal, Op.maxDepth, this, Result.andThen]
    · rename_i h1
      injection h with h
      subst h
      refine ⟨_, rfl, rfl, ?_⟩
      have := run_equalIn_bool' (P := P) w 9999 t a b h1
      simp [binOp, Op.equal, Op.maxDepth, this, Result.andThen]
    · cases h
  · rename_i xs ys
    split at h
    · cases h
    · rename_i hgt
      have hx' := hx
      have hy' := hy
      obtain ⟨as, rfl, hxs, hox⟩ := hx.agg_inv
      obtain ⟨bs, rfl, hys, hoy⟩ := hy.agg_inv
      have hg := run_eqGuard_agg (P := P) w op t ox oy as bs (by simpa using hgt)
      simp only [Sem.run_bind, hg, Result.andThen_ok]
      split at h
      · cases h1 : eqIn P 10000 t (.agg xs) (.agg ys) with
        | none => simp [h1] at h
        | some q =>
          simp [h1] at h
          subst h
          refine ⟨_, rfl, rfl, ?_⟩
          rw [run_eql_struct, eqIn_run 10000 t _ _ q _ _ h1 hx' hy', Result.andThen_ok]
      · cases h1 : eqIn P 10000 t (.agg xs) (.agg ys) with
        | none => simp [h1] at h
        | some q =>
          simp [h1] at h
          subst h
          refine ⟨_, rfl, rfl, ?_⟩
          rw [run_neq_struct, eqIn_run 10000 t _ _ q _ _ h1 hx' hy', Result.andThen_ok]
      · cases h
  · cases h

theorem unA_run {op : UnOp} {x v : AV} {vx : Value} (h : unA op x = some v) (hx : Rep S ρ w x vx) : ∃ u, v = .val u ∧ flat u = true ∧ (Op.unary op vx).run P w = .ok u w := by
  unfold unA at h
  split at h
  · obtain ⟨rfl, _⟩ := hx.val_inv
    cases op <;> simp at h
    subst h
    exact ⟨_, rfl, rfl, rfl⟩
  · obtain ⟨rfl, _⟩ := hx.val_inv
    cases op <;> simp at h
    subst h
    exact ⟨_, rfl, rfl, by simp [Op.unary, Op.intArith]⟩
  · cases h
end
end Go.AI

/-
  Operations on memory: what is read out of rows and out of what stands still; stores; new blocks.
-/
set_option linter.unusedVariables false
set_option linter.unusedSimpArgs false
namespace Go.AI

section
variable {P : Program} {S O : Nat → Prop} {ρ ρ' : Map} {w w' : World} {m : Rows} {a : Act} {Q : Exit → Act → World → Prop}

/-! ### reading -/
/-- The cells at an address stand for these values. -/
def Reads (S : Nat → Prop) (ρ : Map) (w : World) (a : Addr) (cs : List AV) : Prop := ∀ (j : Nat) (c : AV), cs[j]? = some c → ∃ u, w.cell? (a.add j) = some u ∧ Rep S ρ w c u

theorem Reads.vals {b : Addr} : ∀ {cs : List AV} (_ : Reads S ρ w b cs), ∃ vs : List Value, RepL S ρ w cs vs ∧ ∀ (j : Nat) (u : Value), vs[j]? = some u → w.cell? (b.add j) = some u := by
  have key : ∀ (cs : List AV) (i : Nat), (∀ (j : Nat) (c : AV), cs[j]? = some c → ∃ u, w.cell? (b.add (i + j)) = some u ∧ Rep S ρ w c u) →
      ∃ vs : List Value, RepL S ρ w cs vs ∧ ∀ (j : Nat) (u : Value), vs[j]? = some u → w.cell? (b.add (i + j)) = some u := by
    intro cs
    induction cs with
    | nil => intro i _; exact ⟨[], trivial, fun j u h => by simp at h⟩
    | cons c cs ih =>
      intro i h
      obtain ⟨u, h1, h2⟩ := h 0 c rfl
      obtain ⟨vs, h3, h4⟩ := ih (i + 1) (fun j c hj => by
        obtain ⟨u, k1, k2⟩ := h (j + 1) c (by simpa using hj)
        exact ⟨u, by rw [show i + 1 + j = i + (j + 1) by omega]; exact k1, k2⟩)
      refine ⟨u :: vs, ⟨h2, h3⟩, fun j x hj => ?_⟩
      cases j with
      | zero => simp at hj; subst hj; exact h1
      | succ j => have := h4 j x (by simpa using hj); rwa [show i + 1 + j = i + (j + 1) by omega] at this
  intro cs h
  obtain ⟨vs, h1, h2⟩ := key cs 0 (by simpa [Reads] using h)
  exact ⟨vs, h1, by simpa using h2⟩

theorem add_add (b : Addr) (i j : Nat) : (b.add i).add j = b.add (i + j) := by
  unfold Addr.add
  by_cases hi : i = 0 <;> by_cases hj : j = 0 <;> simp [hi, hj, Nat.add_assoc]

theorem Reads.drop {b : Addr} {cs : List AV} (h : Reads S ρ w b cs) (n : Nat) : Reads S ρ w (b.add n) (cs.drop n) := by
  intro j c hj
  rw [add_add]
  exact h (n + j) c (by rw [List.getElem?_drop] at hj; exact hj)
theorem Reads.take {b : Addr} {cs : List AV} (h : Reads S ρ w b cs) (n : Nat) : Reads S ρ w b (cs.take n) := by
  intro j c hj
  rw [List.getElem?_take] at hj
  split at hj
  · exact h j c hj
  · cases hj

theorem getCells_eq {cs l : List AV} {off n : Nat} (h : getCells cs off n = some l) : l = (cs.drop off).take n ∧ l.length = n := by
  unfold getCells at h
  split at h
  · injection h with h; subst h; exact ⟨rfl, by assumption⟩
  · cases h

theorem loadVar_run {t : TypeId} {cs : List AV} {off : Nat} {v : AV} {b : Addr} (h : loadA P t cs off = some v) (hr : Reads S ρ w b (cs.drop off)) (ho : ∀ c ∈ cs, one c = true) :
    ∃ u, (loadVar t b).run P w = .ok u w ∧ Rep S ρ w v u := by
  unfold loadA at h
  split at h
  · rename_i n h1 h2
    cases hg : getCells cs off n with
    | none => simp [hg] at h
    | some l =>
      simp [hg] at h
      subst h
      obtain ⟨e, hl⟩ := getCells_eq hg
      have hr' : Reads S ρ w b l := by rw [e]; exact hr.take n
      obtain ⟨vs, k1, k2⟩ := hr'.vals
      have hlen := k1.length
      have hrun := run_loadCells_list (P := P) w b vs k2
      refine ⟨.agg vs.toArray, ?_, .agg_of (by simpa using k1) (fun c hc => by rw [e] at hc; exact ho c (List.mem_of_mem_drop (List.mem_of_mem_take hc)))⟩
      rw [← hlen, hl] at hrun
      simp [loadVar, run_agg h1, run_size h2, hrun, Result.andThen]
  · rename_i n h1 h2
    obtain ⟨u, k1, k2⟩ := hr 0 v (by rw [List.getElem?_drop]; simpa using h)
    refine ⟨u, ?_, k2⟩
    have : b.add 0 = b := by simp [Addr.add]
    rw [this] at k1
    simp [loadVar, run_agg h1, Result.andThen, k1]
  · cases h

theorem RowOk.reads {L : Loc} {r : Row} (h : RowOk S ρ w (some L) r) : Reads S ρ w ⟨L.blk, L.base, none⟩ r.cells ∧ ∀ c ∈ r.cells, one c = true := by
  obtain ⟨h1, h2, h3, cs, ty, fr, h4, h5, h6, h7, h8, h9⟩ := h
  refine ⟨fun j c hj => ?_, h8⟩
  obtain ⟨v, hv, hr⟩ := h9 j c hj
  exact ⟨v, by rw [Addr.add_lit, cell_of_row w _ _ cs ty fr h4]; exact hv, hr⟩

theorem MR.at_ (hm : MR S O ρ m w) {id : Nat} {r : Row} (hr : m id = some r) (hl : r.live = true) {x : Option Loc} (hx : ρ id = some x) : RowOk S ρ w x r := (hm.ok id r x hr hl hx).1

theorem Rep.ptr_inv {id off : Nat} {v : Value} (h : Rep S ρ w (.ptr id off) v) : ∃ L, ρ id = some (some L) ∧ v = .pointer (some ⟨L.blk, L.base + off, none⟩) := by
  cases h with
  | ptr h => exact ⟨_, h, rfl⟩

theorem Rep.eptr_inv {cs : List AV} {v : Value} (h : Rep S ρ w (.eptr cs) v) : ∃ b, v = .pointer (some b) ∧ Reads S ρ w b cs ∧ (∀ c ∈ cs, one c = true) ∧ (cs ≠ [] → S b.block) := by
  cases h with
  | eptr vs hp ho hS hA hr => exact ⟨_, rfl, fun j c hj => ⟨vs j, hA j (List.getElem?_eq_some_iff.1 hj).1, hr j c hj⟩, ho, hS⟩

theorem Rep.eptr_plain {cs : List AV} {v : Value} (h : Rep S ρ w (.eptr cs) v) : plainL cs = true := by
  cases h with
  | eptr vs hp => exact hp
theorem Rep.ext_plain {cs : List AV} {n : Nat} {v : Value} (h : Rep S ρ w (.ext cs n) v) : plainL cs = true := by
  cases h with
  | ext vs hl hn hp => exact hp

theorem Rep.ext_inv {cs : List AV} {n : Nat} {v : Value} (h : Rep S ρ w (.ext cs n) v) : ∃ A cap, v = .slice A n cap ∧ n ≤ cap ∧ (0 < n → A.isSome = true) ∧ (∀ c ∈ cs, one c = true) ∧ (cs ≠ [] → ∃ b, A = some b ∧ S b.block ∧ Reads S ρ w b cs) := by
  cases h with
  | ext vs hl hn hp ho hA hr =>
    refine ⟨_, _, rfl, hl, hn, ho, fun hne => ?_⟩
    obtain ⟨b, e, hs, hc⟩ := hA hne
    exact ⟨b, e, hs, fun j c hj => ⟨vs j, hc j (List.getElem?_eq_some_iff.1 hj).1, hr j c hj⟩⟩

theorem blk_add (b : Addr) (n : Nat) : (b.add n).block = b.block := by unfold Addr.add; split <;> rfl

theorem Rep.eptr_of {b : Addr} {cs : List AV} (hp : plainL cs = true) (h : Reads S ρ w b cs) (ho : ∀ c ∈ cs, one c = true) (hS : cs ≠ [] → S b.block) : Rep S ρ w (.eptr cs) (.pointer (some b)) := by
  obtain ⟨vs, h1, h2⟩ := h.vals
  have hl := h1.length
  refine .eptr (fun j => vs.getD j undef) hp ho hS (fun j hj => ?_) (fun j c hj => ?_)
  · have hj' : j < vs.length := by omega
    have := h2 j _ (List.getElem?_eq_getElem hj')
    simpa [List.getD, hj'] using this
  · have hj' : j < vs.length := by have := (List.getElem?_eq_some_iff.1 hj).1; omega
    exact h1.get j c _ hj (by simp [List.getD, hj'])

theorem Rep.ext_of {A : Option Addr} {cs : List AV} {n cap : Nat} (hp : plainL cs = true) (hl : n ≤ cap) (hn : 0 < n → A.isSome = true) (ho : ∀ c ∈ cs, one c = true) (h : cs ≠ [] → ∃ b, A = some b ∧ S b.block ∧ Reads S ρ w b cs) : Rep S ρ w (.ext cs n) (.slice A n cap) := by
  by_cases hne : cs = []
  · subst hne
    exact .ext (fun _ => undef) hl hn hp ho (fun h => absurd rfl h) (fun j c hj => by simp at hj)
  · obtain ⟨b, e, hs, hr⟩ := h hne
    obtain ⟨vs, h1, h2⟩ := hr.vals
    have hlen := h1.length
    refine .ext (fun j => vs.getD j undef) hl hn hp ho (fun _ => ⟨b, e, hs, fun j hj => ?_⟩) (fun j c hj => ?_)
    · have hj' : j < vs.length := by omega
      have := h2 j _ (List.getElem?_eq_getElem hj')
      simpa [List.getD, hj'] using this
    · have hj' : j < vs.length := by have := (List.getElem?_eq_some_iff.1 hj).1; omega
      exact h1.get j c _ hj (by simp [List.getD, hj'])

/-- A pointer into a row: what stands there. -/
theorem MR.ptr (hm : MR S O ρ m w) {id off : Nat} {r : Row} {v : Value} (hr : m id = some r) (hl : r.live = true) (h : Rep S ρ w (.ptr id off) v) :
    ∃ L, ρ id = some (some L) ∧ v = .pointer (some ⟨L.blk, L.base + off, none⟩) ∧ RowOk S ρ w (some L) r ∧ Reads S ρ w ⟨L.blk, L.base + off, none⟩ (r.cells.drop off) ∧ ∀ c ∈ r.cells, one c = true := by
  obtain ⟨L, hL, rfl⟩ := h.ptr_inv
  have hk := hm.at_ hr hl hL
  obtain ⟨h1, h2⟩ := hk.reads
  refine ⟨L, hL, rfl, hk, ?_, h2⟩
  have := h1.drop off
  rwa [Addr.add_lit] at this

/-! ### writing -/
def setV : Array Value → Nat → List Value → Array Value
  | cs, _, [] => cs
  | cs, o, v :: vs => setV (cs.setIfInBounds o v) (o + 1) vs

theorem setV_size : ∀ (vs : List Value) (cs : Array Value) (o : Nat), (setV cs o vs).size = cs.size
  | [], _, _ => rfl
  | v :: vs, cs, o => by simp [setV, setV_size vs]

theorem heap_setCells (b : Nat) (ty : TypeId) (fr : Nat × Nat) : ∀ (vs : List Value) (o : Nat) (w : World) (cs : Array Value), w.heap[b]? = some (.cells cs ty fr) →
    (w.setCells b o vs).heap[b]? = some (.cells (setV cs o vs) ty fr) ∧ (∀ i, i ≠ b → (w.setCells b o vs).heap[i]? = w.heap[i]?) ∧ (w.setCells b o vs).heap.size = w.heap.size ∧
      (w.setCells b o vs).os = w.os ∧ (w.setCells b o vs).tape = w.tape ∧ (w.setCells b o vs).output = w.output
  | [], o, w, cs, h => ⟨h, fun _ _ => rfl, rfl, rfl, rfl, rfl⟩
  | v :: vs, o, w, cs, h => by
    have h1 : (w.setCell ⟨b, o, none⟩ v).heap[b]? = some (.cells (cs.setIfInBounds o v) ty fr) := by
      simp [World.setCell, Array.getElem?_modify, h]
    obtain ⟨k1, k2, k3, k4, k5, k6⟩ := heap_setCells b ty fr vs (o + 1) _ _ h1
    refine ⟨k1, fun i hi => (k2 i hi).trans ?_, k3.trans (by simp [World.setCell]), k4, k5, k6⟩
    simp only [World.setCell, Array.getElem?_modify]
    rw [if_neg (fun e => hi e.symm)]

theorem setCells_length : ∀ (vs cs : List AV) (o : Nat), (setCells cs o vs).length = cs.length
  | [], _, _ => rfl
  | v :: vs, cs, o => by simp [setCells, setCells_length vs]

theorem setCells_one : ∀ (vs cs : List AV) (o : Nat), (∀ c ∈ cs, one c = true) → (∀ c ∈ vs, one c = true) → ∀ c ∈ setCells cs o vs, one c = true
  | [], _, _, h, _ => h
  | v :: vs, cs, o, h, hv => by
    refine setCells_one vs _ _ (fun c hc => ?_) (fun c hc => hv c (by simp [hc]))
    rcases List.mem_or_eq_of_mem_set hc with hc | rfl
    · exact h c hc
    · exact hv _ (by simp)

/-- Cells in step with values, from 'base' on. -/
def Step (S : Nat → Prop) (ρ : Map) (w : World) (base : Nat) (cs : List AV) (arr : Array Value) : Prop := ∀ (j : Nat) (c : AV), cs[j]? = some c → ∃ v, arr[base + j]? = some v ∧ Rep S ρ w c v

theorem Step.set {base : Nat} : ∀ (vs : List AV) (us : List Value) (cs : List AV) (arr : Array Value) (o : Nat), Step S ρ w base cs arr → RepL S ρ w vs us → base + cs.length ≤ arr.size →
    Step S ρ w base (setCells cs o vs) (setV arr (base + o) us)
  | [], [], _, _, _, h, _, _ => h
  | v :: vs, u :: us, cs, arr, o, h, hr, hl => by
    refine Step.set vs us _ _ (o + 1) (fun j c hj => ?_) hr.2 (by simpa using hl)
    by_cases hjo : o = j
    · subst hjo
      have hlt : o < cs.length := by have := (List.getElem?_eq_some_iff.1 hj).1; simpa using this
      rw [List.getElem?_set_self hlt] at hj
      injection hj with hj
      subst hj
      exact ⟨u, by simp [show base + o < arr.size by omega], hr.1⟩
    · rw [List.getElem?_set_ne hjo] at hj
      obtain ⟨x, h1, h2⟩ := h j c hj
      exact ⟨x, by rw [Array.getElem?_setIfInBounds_ne (by omega)]; exact h1, h2⟩
  | [], _ :: _, _, _, _, _, h, _ => h.elim
  | _ :: _, [], _, _, _, _, h, _ => h.elim

/-- A row is written in its own block. -/
theorem Outc.upd (hm : MR S O ρ m w) (f : Fr S O w) {id : Nat} {r : Row} {L : Loc} (hr : m id = some r) (hl : r.live = true) (hL : ρ id = some (some L)) {next : Nat} {ns : List Row}
    (hid : id < next) (hn : ∀ q ∈ ns, q = ⟨[], .nil, true⟩) (hf : ∀ k, k < ns.length → ρ (next + k) = none) {off : Nat} {vs : List AV} {us : List Value}
    (hfit : off + vs.length ≤ r.cells.length) (ho : ∀ c ∈ vs, one c = true) (hus : ∀ ρ' : Map, ρ.le ρ' → (∀ k, k < ns.length → ρ' (next + k) = some none) → RepL S ρ' w vs us)
    {a : AV} {v : Value} (use : List Nat) (hv : ∀ ρ' : Map, ρ.le ρ' → Rep S ρ' w a v) :
    Outc S O ρ w m next ⟨a, [(id, { r with cells := setCells r.cells off vs })], ns, use⟩ v (w.setCells L.blk (L.base + off) us) := by
  obtain ⟨hok, hO⟩ := hm.ok id r _ hr hl hL
  obtain ⟨hOb, hSb⟩ := hO L rfl
  obtain ⟨h1, h2, h3, cs, ty, fr, h4, h5, h6, h7, h8, h9⟩ := hok
  obtain ⟨g1, g2, g3, g4, g5, g6⟩ := heap_setCells L.blk ty fr us (L.base + off) w cs h4
  have hle : ρ.le (ρ.add next (List.replicate ns.length none)) := Map.le_add (fun k hk => hf k (by simpa using hk))
  have hk : ∀ k, k < ns.length → ρ.add next (List.replicate ns.length none) (next + k) = some none := fun k hk => by
    rw [Map.add_at (by simpa using hk)]; simp [hk]
  have hkp : Kp O w (w.setCells L.blk (L.base + off) us) := ⟨g4, g5, g6, by omega, fun b hb hno => g2 b (fun e => hno (e ▸ hOb))⟩
  have hSs : ∀ b, S b → (w.setCells L.blk (L.base + off) us).heap[b]? = w.heap[b]? := fun b hb => g2 b (fun e => hSb (e ▸ hb))
  have hx : ∀ i x, ρ i = some x → ρ.add next (List.replicate ns.length none) i = some x := hle
  have hat : ∀ i q, applyM m next ⟨a, [(id, { r with cells := setCells r.cells off vs })], ns, use⟩ i = some q →
      (i = id ∧ q = { r with cells := setCells r.cells off vs }) ∨ (i ≠ id ∧ next ≤ i ∧ i < next + ns.length ∧ ns[i - next]? = some q) ∨ (i ≠ id ∧ ¬(next ≤ i ∧ i < next + ns.length) ∧ m i = some q) := by
    intro i q hq
    simp only [applyM, lookupU] at hq
    by_cases hi : id = i
    · rw [if_pos hi] at hq
      exact .inl ⟨hi.symm, by simpa using hq.symm⟩
    · rw [if_neg hi] at hq
      by_cases hc : next ≤ i ∧ i < next + ns.length
      · simp only [if_pos hc] at hq; exact .inr (.inl ⟨fun e => hi e.symm, hc.1, hc.2, hq⟩)
      · simp only [if_neg hc] at hq; exact .inr (.inr ⟨fun e => hi e.symm, hc, hq⟩)
  refine ⟨_, hle, fun i k1 k2 => ?_, hkp, (hv _ hle).mono (.refl _) (fun _ h => h) hSs, hm.step hle hSs (fun i q hq => ?_) (fun i i' q q' L1 L2 hq hq' hlq hlq' hx1 hx2 e => ?_)⟩
  · rw [Map.add_else (by simpa using k2)]; exact k1
  · rcases hat i q hq with ⟨rfl, rfl⟩ | ⟨_, k1, k2, k3⟩ | ⟨k1, _, k3⟩
    · refine .inr ⟨⟨_, hx _ _ hL⟩, fun _ x hxx => ?_⟩
      rw [hx _ _ hL] at hxx
      injection hxx with hxx
      subst hxx
      refine ⟨⟨h1, by rw [setCells_length]; exact h2, by omega, _, ty, fr, g1, by rw [setV_size]; exact h5, h6, h7, setCells_one _ _ _ h8 ho, ?_⟩, fun L' e => by cases e; exact ⟨hOb, hSb⟩⟩
      have st : Step S (ρ.add next (List.replicate ns.length none)) w L.base r.cells cs := fun j c hj => by
        obtain ⟨v, hv, hr⟩ := h9 j c hj
        exact ⟨v, hv, hr.mono hle (fun _ h => h) (fun _ _ => rfl)⟩
      intro j c hj
      obtain ⟨v, k1, k2⟩ := Step.set vs us r.cells cs off st (hus _ hle hk) (by omega) j c hj
      exact ⟨v, k1, k2.mono (.refl _) (fun _ h => h) hSs⟩
    · refine .inr ⟨⟨none, ?_⟩, fun _ x hxx => ?_⟩
      · have := hk (i - next) (by omega); rwa [show next + (i - next) = i by omega] at this
      · have := hk (i - next) (by omega)
        rw [show next + (i - next) = i by omega, hxx] at this
        injection this with this
        subst this
        exact ⟨nil_rowOk (hn q (List.mem_of_getElem? k3)), fun L e => by cases e⟩
    · refine .inl ⟨k3, fun hlive L' hL' => g2 _ (fun e => ?_)⟩
      exact k1 (hm.inj i id q r L' L k3 hr hlive hl hL' hL e)
  · have back : ∀ i q L1, applyM m next ⟨a, [(id, { r with cells := setCells r.cells off vs })], ns, use⟩ i = some q → q.live = true → ρ.add next (List.replicate ns.length none) i = some (some L1) →
        ∃ q0, m i = some q0 ∧ q0.live = true ∧ ρ i = some (some L1) := by
      intro i q L1 hq hlq hx1
      rcases hat i q hq with ⟨rfl, rfl⟩ | ⟨_, k1, k2, k3⟩ | ⟨k1, k2, k3⟩
      · refine ⟨r, hr, hl, ?_⟩
        rw [hx _ _ hL] at hx1
        rw [hL]; exact hx1
      · have := hk (i - next) (by omega)
        rw [show next + (i - next) = i by omega, hx1] at this
        cases this
      · rw [Map.add_else (by simpa using k2)] at hx1
        exact ⟨q, k3, hlq, hx1⟩
    obtain ⟨q0, e1, e2, e3⟩ := back i q L1 hq hlq hx1
    obtain ⟨q0', e1', e2', e3'⟩ := back i' q' L2 hq' hlq' hx2
    exact hm.inj i i' q0 q0' L1 L2 e1 e1' e2 e2' e3 e3' e
end
end Go.AI

/-
  One operation, case by case (all but calls, append, copy).
-/
set_option linter.unusedVariables false
set_option linter.unusedSimpArgs false
namespace Go.AI

/-- What stands when an operation begins. -/
structure Cx (E : Env) (S O : Nat → Prop) (ρ : Map) (w : World) (m : Rows) (t : Nat → AV) (a : Act) : Prop where
  fr : Fr S O w
  mr : MR S O ρ m w
  tm : TmpsOk S ρ w t a
  gl : GlobOk E S w

section
variable {E : Env} {S O : Nat → Prop} {ρ : Map} {w : World} {m : Rows} {t : Nat → AV} {a : Act} {Q : Exit → Act → World → Prop} {next : Nat} {e : Eff} {o : Oper}

abbrev Goal (E : Env) (S O : Nat → Prop) (ρ : Map) (w : World) (m : Rows) (next : Nat) (e : Eff) (o : Oper) (a : Act) (Q : Exit → Act → World → Prop) : Prop :=
  o.wp E.P a w (OpK S O ρ w m next e o.dst a) Q

theorem Goal.pure {v : Value} (c : Cx E S O ρ w m t a) {x : AV} {us : List Nat} (h : (execOp a.eval o).run E.P w = .ok (.value v) w) (hr : Rep S ρ w x v) :
    Goal E S O ρ w m next ⟨x, [], [], us⟩ o a Q := wp_value h ⟨v, rfl, .pure c.mr hr⟩

theorem s_move (c : Cx E S O ρ w m t a) {x : Operand} (ho : o.op = .move x ∨ o.op = .assign x) {v : AV} (h : ev E t x = some v) (hf : ∀ k, k < (deNil next v).2.length → ρ (next + k) = none) :
    Goal E S O ρ w m next ⟨(deNil next v).1, [], (deNil next v).2, []⟩ o a Q := by
  have hr := ev_rep c.tm c.gl h
  have hrun : (execOp a.eval o).run E.P w = .ok (.value (a.eval x)) w := by
    rcases ho with ho | ho <;> simp [execOp, ho]
  exact wp_value hrun ⟨_, rfl, Outc.nils c.mr c.fr (deNil_new _ _) hf [] fun ρ' hle hk => deNil_rep _ (hr.mono hle (fun _ h => h) (fun _ _ => rfl)) hk⟩

theorem s_pick (c : Cx E S O ρ w m t a) {q x y : Operand} (ho : o.op = .pick q x y) {b : Bool} {u v : AV} (h1 : ev E t q = some (.val (.bool b))) (h2 : ev E t x = some u) (h3 : ev E t y = some v) :
    Goal E S O ρ w m next ⟨if b then u else v, [], [], []⟩ o a Q := by
  obtain ⟨e1, _⟩ := (ev_rep c.tm c.gl h1).val_inv
  refine Goal.pure c (v := if b then a.eval x else a.eval y) ?_ ?_
  · simp [execOp, ho, e1, asBool]
  · cases b
    · exact ev_rep c.tm c.gl h3
    · exact ev_rep c.tm c.gl h2

theorem s_bin (c : Cx E S O ρ w m t a) {op : BinOp} {ty ty' : TypeId} {x y : Operand} (ho : o.op = .binOp op ty x y ty') {u v r : AV} (h1 : ev E t x = some u) (h2 : ev E t y = some v) (h3 : binA E.P op ty u v = some r) :
    Goal E S O ρ w m next ⟨r, [], [], []⟩ o a Q := by
  obtain ⟨z, rfl, hz, hrun⟩ := binA_run h3 (ev_rep c.tm c.gl h1) (ev_rep c.tm c.gl h2) x y
  refine Goal.pure c (v := z) ?_ (.val hz)
  simp only [execOp, ho]
  exact run_v hrun

theorem s_un (c : Cx E S O ρ w m t a) {op : UnOp} {ty : TypeId} {x : Operand} (ho : o.op = .unOp op ty x) {u r : AV} (h1 : ev E t x = some u) (h3 : unA op u = some r) :
    Goal E S O ρ w m next ⟨r, [], [], []⟩ o a Q := by
  obtain ⟨z, rfl, hz, hrun⟩ := unA_run (P := E.P) (w := w) h3 (ev_rep c.tm c.gl h1)
  refine Goal.pure c (v := z) ?_ (.val hz)
  simp only [execOp, ho]
  exact run_v hrun

theorem s_extract (c : Cx E S O ρ w m t a) {x : Operand} {i : Nat} (ho : o.op = .extract x i) {vs : List AV} {v : AV} (h1 : ev E t x = some (.tup vs)) (h2 : vs[i]? = some v) :
    Goal E S O ρ w m next ⟨v, [], [], []⟩ o a Q := by
  obtain ⟨us, e1, hr⟩ := (ev_rep c.tm c.gl h1).tup_inv
  have hl := hr.length
  have hi : i < us.size := by
    have := (List.getElem?_eq_some_iff.1 h2).1
    rw [hl] at this
    simpa using this
  refine Goal.pure c (v := us[i]) ?_ (hr.get i v _ h2 (by simp [hi]))
  simp only [execOp, ho, e1]
  exact run_v (by simp [Instr.extract, hi])

theorem s_nilCheck (c : Cx E S O ρ w m t a) {x : Operand} (ho : o.op = .nilCheck x) {v : AV} (h1 : ev E t x = some v) (h2 : (∃ i k, v = .ptr i k) ∨ (∃ cs, v = .eptr cs) ∨ ∃ f cs, v = .fn f cs) :
    Goal E S O ρ w m next ⟨v, [], [], []⟩ o a Q := by
  have hr := ev_rep c.tm c.gl h1
  refine Goal.pure c (v := a.eval x) ?_ hr
  rcases h2 with ⟨i, k, rfl⟩ | ⟨cs, rfl⟩ | ⟨f, cs, rfl⟩
  · obtain ⟨L, _, e1⟩ := hr.ptr_inv
    simp [execOp, ho, e1]
  · obtain ⟨b, e1, _⟩ := hr.eptr_inv
    simp [execOp, ho, e1]
  · obtain ⟨vs, e1, _⟩ := hr.fn_inv
    simp [execOp, ho, e1]

theorem s_makeFunc (c : Cx E S O ρ w m t a) {f : FuncId} {first caps : Array Operand} (ho : o.op = .makeFunc (.func f) first caps) (h0 : first.size = 0) {cs : List AV} (h1 : evs E t caps.toList = some cs) :
    Goal E S O ρ w m next ⟨.fn f cs, [], [], []⟩ o a Q := by
  have hr := evs_rep c.tm c.gl h1
  have : first = #[] := Array.eq_empty_of_size_eq_zero h0
  subst this
  refine Goal.pure c (v := .func (.func f) #[] (caps.map a.eval)) ?_ (.fn_of (by simpa using hr))
  simp [execOp, ho, Instr.makeFunc]

theorem s_load (c : Cx E S O ρ w m t a) {ty : TypeId} {x : Operand} (ho : o.op = .load ty x) {id off : Nat} {r : Row} {v : AV} (h1 : ev E t x = some (.ptr id off)) (h2 : m id = some r) (hl : r.live = true)
    (h3 : loadA E.P ty r.cells off = some v) : Goal E S O ρ w m next ⟨v, [], [], [id]⟩ o a Q := by
  obtain ⟨L, hL, e1, hok, hrd, hone⟩ := c.mr.ptr h2 hl (ev_rep c.tm c.gl h1)
  obtain ⟨u, hu, hr⟩ := loadVar_run (P := E.P) h3 hrd hone
  refine Goal.pure c (v := u) ?_ hr
  simp only [execOp, ho, e1]
  exact run_v (by simpa [Instr.loadAt, Instr.sureAddr] using hu)

theorem s_loadE (c : Cx E S O ρ w m t a) {ty : TypeId} {x : Operand} (ho : o.op = .load ty x) {cs : List AV} {v : AV} (h1 : ev E t x = some (.eptr cs)) (h3 : loadA E.P ty cs 0 = some v) :
    Goal E S O ρ w m next ⟨v, [], [], []⟩ o a Q := by
  obtain ⟨b, e1, hrd, hone, _⟩ := (ev_rep c.tm c.gl h1).eptr_inv
  obtain ⟨u, hu, hr⟩ := loadVar_run (P := E.P) h3 (by simpa using hrd) hone
  refine Goal.pure c (v := u) ?_ hr
  simp only [execOp, ho, e1]
  exact run_v (by simpa [Instr.loadAt, Instr.sureAddr] using hu)

theorem s_fieldAddr (c : Cx E S O ρ w m t a) {s : TypeId} {x : Operand} {i : Nat} (ho : o.op = .fieldAddr s x i) {fields : Array Field} {q : Field} {n : Nat} (hs : E.P.underlying s = some (.struct fields)) (hq : fields[i]? = some q)
    (hn : szOf E.P q.type = some n) (h0 : n ≠ 0) : (∀ id off, ev E t x = some (.ptr id off) → Goal E S O ρ w m next ⟨.ptr id (off + q.offset), [], [], []⟩ o a Q) ∧
      (∀ cs, ev E t x = some (.eptr cs) → Goal E S O ρ w m next ⟨.eptr (cs.drop q.offset), [], [], []⟩ o a Q) := by
  refine ⟨fun id off h1 => ?_, fun cs h1 => ?_⟩
  · obtain ⟨L, hL, e1⟩ := (ev_rep c.tm c.gl h1).ptr_inv
    refine Goal.pure c (v := .pointer (some ⟨L.blk, L.base + (off + q.offset), none⟩)) ?_ (.ptr hL)
    simp only [execOp, ho, e1]
    refine run_v ?_
    simp [Instr.fieldAt, run_under hs, hq, Instr.sureAddr, fieldPlace, run_size hn, h0, Addr.add_lit, Result.andThen, Nat.add_assoc]
  · obtain ⟨b, e1, hrd, hone, hS⟩ := (ev_rep c.tm c.gl h1).eptr_inv
    refine Goal.pure c (v := .pointer (some (b.add q.offset))) ?_ (.eptr_of (plainL_drop (ev_rep c.tm c.gl h1).eptr_plain _) (hrd.drop _) (fun c hc => hone c (List.mem_of_mem_drop hc)) (fun hne => ?_))
    · simp only [execOp, ho, e1]
      refine run_v ?_
      simp [Instr.fieldAt, run_under hs, hq, Instr.sureAddr, fieldPlace, run_size hn, h0, Result.andThen]
    · rw [blk_add]
      exact hS (fun e => hne (by subst e; simp))

theorem s_field (c : Cx E S O ρ w m t a) {s : TypeId} {x : Operand} {i : Nat} (ho : o.op = .field s x i) {fields : Array Field} {q : Field} {cs : List AV} {v : AV} (hs : E.P.underlying s = some (.struct fields)) (hq : fields[i]? = some q)
    (h1 : ev E t x = some (.agg cs)) (h2 : partA E.P q.type cs q.offset = some v) : Goal E S O ρ w m next ⟨v, [], [], []⟩ o a Q := by
  obtain ⟨vs, e1, hr, hone⟩ := (ev_rep c.tm c.gl h1).agg_inv
  obtain ⟨u, hu, hr⟩ := partA_run (w' := w) h2 hr hone
  refine Goal.pure c (v := u) ?_ hr
  simp only [execOp, ho, e1]
  refine run_v ?_
  simp [Instr.field, run_under hs, hq, asAgg, hu, Result.andThen]

theorem s_index (c : Cx E S O ρ w m t a) {ty : TypeId} {x y : Operand} (ho : o.op = .index ty x y) {k : IntKind} {j : Int} {len z : Nat} {el : TypeId} {cs : List AV} {v : AV} (hs : E.P.underlying ty = some (.array len el))
    (h1 : ev E t x = some (.agg cs)) (h2 : ev E t y = some (.val (.int k j))) (hz : szOf E.P el = some z) (hj : 0 ≤ j ∧ j < len) (h3 : partA E.P el cs (j.toNat * z) = some v) :
    Goal E S O ρ w m next ⟨v, [], [], []⟩ o a Q := by
  obtain ⟨vs, e1, hr, hone⟩ := (ev_rep c.tm c.gl h1).agg_inv
  obtain ⟨e2, _⟩ := (ev_rep c.tm c.gl h2).val_inv
  obtain ⟨u, hu, hr⟩ := partA_run (w' := w) h3 hr hone
  refine Goal.pure c (v := u) ?_ hr
  simp only [execOp, ho, e1, e2]
  refine run_v ?_
  simp [Instr.index, asIntOf, run_under hs, hj, run_size hz, hu, Result.andThen]

theorem s_indexS (c : Cx E S O ρ w m t a) {ty : TypeId} {x y : Operand} (ho : o.op = .index ty x y) {k : IntKind} {j : Int} {s : ByteArray} {b : UInt8} (hs : E.P.underlying ty = some .string)
    (h1 : ev E t x = some (.val (.string s))) (h2 : ev E t y = some (.val (.int k j))) (hj : 0 ≤ j) (h3 : s.data.toList[j.toNat]? = some b) :
    Goal E S O ρ w m next ⟨.val (.int .u8 b.toNat), [], [], []⟩ o a Q := by
  obtain ⟨e1, _⟩ := (ev_rep c.tm c.gl h1).val_inv
  obtain ⟨e2, _⟩ := (ev_rep c.tm c.gl h2).val_inv
  refine Goal.pure c (v := .int .u8 b.toNat) ?_ (.val rfl)
  simp only [execOp, ho, e1, e2]
  refine run_v ?_
  have hlt : j.toNat < s.size := by have := (List.getElem?_eq_some_iff.1 h3).1; simpa using this
  have hb : s[j.toNat]? = some b := by
    rw [getElem?_pos s j.toNat hlt]
    obtain ⟨p, hp⟩ := List.getElem?_eq_some_iff.1 h3
    rw [← hp]
    simp
    rfl
  simp [Instr.index, asIntOf, run_under hs, hj, hb, Result.andThen]
end
end Go.AI

/-
  One operation, case by case: addresses of elements, slice expressions, new blocks, stores, conversions.
-/
set_option linter.unusedVariables false
set_option linter.unusedSimpArgs false
namespace Go.AI

section
variable {E : Env} {S O : Nat → Prop} {ρ : Map} {w : World} {m : Rows} {t : Nat → AV} {a : Act} {Q : Exit → Act → World → Prop} {next : Nat} {e : Eff} {o : Oper}

theorem Rep.sl_inv {id off n z : Nat} {v : Value} (h : Rep S ρ w (.sl id off n z) v) : ∃ A cap x, v = .slice A n cap ∧ ρ id = some x ∧ n ≤ cap ∧
    (0 < cap → ∃ L, x = some L ∧ A = some ⟨L.blk, L.base + off, none⟩ ∧ L.size ≤ off + cap * z ∧ L.base + off + cap * z ≤ L.bsz) ∧ (cap = 0 → ∀ L, x = some L → L.size ≤ off) := by
  cases h with
  | sl hx hl hc h0 => exact ⟨_, _, _, rfl, hx, hl, hc, h0⟩

theorem run_indexAt_sl {P : Program} {w : World} {ty el : TypeId} {b : Addr} {n cap : Nat} {k : IntKind} {j : Int} {z : Nat} (hu : P.underlying ty = some (.slice el)) (hz : szOf P el = some z) (hj : 0 ≤ j ∧ j < n) :
    (Instr.indexAt ty (.slice (some b) n cap) (.int k j)).run P w = .ok (.pointer (some (b.add (j.toNat * z)))) w := by
  simp [Instr.indexAt, asIntOf, run_under hu, hj, run_size hz, Result.andThen]

theorem run_indexAt_arr {P : Program} {w : World} {ty el : TypeId} {b : Addr} {n : Nat} {k : IntKind} {j : Int} {z : Nat} (hu : P.underlying ty = some (.array n el)) (hz : szOf P el = some z) (hj : 0 ≤ j ∧ j < n) :
    (Instr.indexAt ty (.pointer (some b)) (.int k j)).run P w = .ok (.pointer (some (b.add (j.toNat * z)))) w := by
  simp [Instr.indexAt, asIntOf, run_under hu, hj, run_size hz, Result.andThen, Instr.sureAddr]

theorem s_indexAddr (c : Cx E S O ρ w m t a) {ty : TypeId} {x y : Operand} (ho : o.op = .indexAddr ty x y) {k : IntKind} {j : Int} {z n : Nat} {el : TypeId} (h2 : ev E t y = some (.val (.int k j))) (hz : szOf E.P el = some z)
    (hj : 0 ≤ j ∧ j < n) :
    (∀ id off, E.P.underlying ty = some (.slice el) → ev E t x = some (.sl id off n z) → Goal E S O ρ w m next ⟨.ptr id (off + j.toNat * z), [], [], []⟩ o a Q) ∧
    (∀ cs, E.P.underlying ty = some (.slice el) → ev E t x = some (.ext cs n) → Goal E S O ρ w m next ⟨.eptr (cs.drop (j.toNat * z)), [], [], []⟩ o a Q) ∧
    (∀ id off, E.P.underlying ty = some (.array n el) → ev E t x = some (.ptr id off) → Goal E S O ρ w m next ⟨.ptr id (off + j.toNat * z), [], [], []⟩ o a Q) ∧
    (∀ cs, E.P.underlying ty = some (.array n el) → ev E t x = some (.eptr cs) → Goal E S O ρ w m next ⟨.eptr (cs.drop (j.toNat * z)), [], [], []⟩ o a Q) := by
  obtain ⟨e2, _⟩ := (ev_rep c.tm c.gl h2).val_inv
  refine ⟨fun id off hu h1 => ?_, fun cs hu h1 => ?_, fun id off hu h1 => ?_, fun cs hu h1 => ?_⟩
  · obtain ⟨A, cap, x', e1, hx, hl, hc, h0⟩ := (ev_rep c.tm c.gl h1).sl_inv
    obtain ⟨L, rfl, rfl, _, _⟩ := hc (by omega)
    refine Goal.pure c (v := .pointer (some ⟨L.blk, L.base + (off + j.toNat * z), none⟩)) ?_ (.ptr hx)
    simp only [execOp, ho, e1, e2]
    refine run_v ?_
    rw [run_indexAt_sl hu hz hj, Addr.add_lit, Nat.add_assoc]
  · obtain ⟨A, cap, e1, hl, hn, hone, hA⟩ := (ev_rep c.tm c.gl h1).ext_inv
    obtain ⟨b, hb⟩ := Option.isSome_iff_exists.1 (hn (by omega))
    subst hb
    refine Goal.pure c (v := .pointer (some (b.add (j.toNat * z)))) ?_ ?_
    · simp only [execOp, ho, e1, e2]
      exact run_v (run_indexAt_sl hu hz hj)
    · by_cases hne : cs = []
      · subst hne
        exact .eptr_of (by simp [plainL]) (fun j c hj => by simp at hj) (fun c hc => by simp at hc) (fun h => absurd (by simp) h)
      · obtain ⟨b', e3, hs, hr⟩ := hA hne
        cases e3
        exact .eptr_of (plainL_drop (ev_rep c.tm c.gl h1).ext_plain _) (hr.drop _) (fun c hc => hone c (List.mem_of_mem_drop hc)) (fun _ => by rw [blk_add]; exact hs)
  · obtain ⟨L, hL, e1⟩ := (ev_rep c.tm c.gl h1).ptr_inv
    refine Goal.pure c (v := .pointer (some ⟨L.blk, L.base + (off + j.toNat * z), none⟩)) ?_ (.ptr hL)
    simp only [execOp, ho, e1, e2]
    refine run_v ?_
    rw [run_indexAt_arr hu hz hj, Addr.add_lit, Nat.add_assoc]
  · obtain ⟨b, e1, hrd, hone, hS⟩ := (ev_rep c.tm c.gl h1).eptr_inv
    refine Goal.pure c (v := .pointer (some (b.add (j.toNat * z)))) ?_ (.eptr_of (plainL_drop (ev_rep c.tm c.gl h1).eptr_plain _) (hrd.drop _) (fun c hc => hone c (List.mem_of_mem_drop hc)) (fun hne => ?_))
    · simp only [execOp, ho, e1, e2]
      exact run_v (run_indexAt_arr hu hz hj)
    · rw [blk_add]
      exact hS (fun e => hne (by subst e; simp))

/-! ### slice expressions -/
theorem evO_rep (ht : TmpsOk S ρ w t a) (hg : GlobOk E S w) {x : Option Operand} {v : Option AV} (h : evO E t x = some v) : (x = none ∧ v = none) ∨ ∃ y u, x = some y ∧ v = some u ∧ Rep S ρ w u (a.eval y) := by
  cases x with
  | none => simp [evO] at h; exact .inl ⟨rfl, h.symm⟩
  | some y =>
    simp only [evO] at h
    cases h1 : ev E t y with
    | none => simp [h1] at h
    | some u => simp [h1] at h; exact .inr ⟨y, u, rfl, h.symm, ev_rep ht hg h1⟩


def OptRep (S : Nat → Prop) (ρ : Map) (w : World) (v : Option AV) (u : Option Value) : Prop := (v = none ∧ u = none) ∨ ∃ x y, v = some x ∧ u = some y ∧ Rep S ρ w x y

theorem evO_opt (ht : TmpsOk S ρ w t a) (hg : GlobOk E S w) {x : Option Operand} {v : Option AV} (h : evO E t x = some v) : OptRep S ρ w v (x.map a.eval) := by
  rcases evO_rep ht hg h with ⟨rfl, rfl⟩ | ⟨y, u, rfl, rfl, hr⟩
  · exact .inl ⟨rfl, rfl⟩
  · exact .inr ⟨u, a.eval y, rfl, rfl, hr⟩

theorem sliceBound_run {P : Program} {y r : Nat} {v : AV} {u : Value} {code : BoundsCode} {Y : Nat} (hr : Rep S ρ w v u) (h : boundA y v = some r) (hY : y ≤ Y) : (Instr.sliceBound u Y code).run P w = .ok r w ∧ r ≤ y := by
  unfold boundA at h
  split at h
  · rename_i k i
    obtain ⟨rfl, _⟩ := hr.val_inv
    split at h
    · rename_i hi
      injection h with h
      subst h
      refine ⟨?_, by omega⟩
      have : 0 ≤ i ∧ i ≤ (Y : Int) := ⟨hi.1, by omega⟩
      simp [Instr.sliceBound, asIntOf, this, Result.andThen]
    · cases h
  · cases h

theorem boundD_le {d y r : Nat} {v : Option AV} (h : boundD d y v = some r) (hd : d ≤ y) : r ≤ y := by
  cases v with
  | none => simp [boundD] at h; omega
  | some v =>
    simp only [boundD, boundA] at h
    split at h
    · split at h
      · injection h with h; omega
      · cases h
    · cases h

theorem sliceBounds_run {P : Program} {b : Bool} {len cap Y h l : Nat} {lo hi : Option AV} {lo' hi' : Option Value} (r1 : OptRep S ρ w lo lo') (r2 : OptRep S ρ w hi hi') (hh : boundD len Y hi = some h) (hl : boundD 0 h lo = some l) (hY : Y ≤ cap) :
    (Instr.sliceBounds b len cap lo' hi' none).run P w = .ok (l, h, cap) w := by
  have k2 : (match hi' with | some v => Instr.sliceBound v cap (if b then .sliceAcap else .sliceAlen) | none => pure len : Sem Nat).run P w = .ok h w := by
    rcases r2 with ⟨rfl, rfl⟩ | ⟨x, y, rfl, rfl, hr⟩
    · simp [boundD] at hh; subst hh; rfl
    · exact (sliceBound_run hr hh hY).1
  have k1 : (match lo' with | some v => Instr.sliceBound v h .sliceB | none => pure 0 : Sem Nat).run P w = .ok l w := by
    rcases r1 with ⟨rfl, rfl⟩ | ⟨x, y, rfl, rfl, hr⟩
    · simp [boundD] at hl; subst hl; rfl
    · exact (sliceBound_run hr hl (Nat.le_refl _)).1
  rcases r1 with ⟨rfl, rfl⟩ | ⟨x, y, rfl, rfl, hr⟩ <;> rcases r2 with ⟨rfl, rfl⟩ | ⟨x', y', rfl, rfl, hr'⟩ <;>
    simp_all [Instr.sliceBounds, Result.andThen]

theorem s_sliceStr (c : Cx E S O ρ w m t a) {ty : TypeId} {x : Operand} {lo hi : Option Operand} (ho : o.op = .slice ty x lo hi none) {s : ByteArray} {vl vh : Option AV} {h l : Nat} (hu : E.P.underlying ty = some .string)
    (h1 : ev E t x = some (.val (.string s))) (h2 : evO E t lo = some vl) (h3 : evO E t hi = some vh) (h4 : boundD s.size s.size vh = some h) (h5 : boundD 0 h vl = some l) :
    Goal E S O ρ w m next ⟨.val (.string (s.extract l h)), [], [], []⟩ o a Q := by
  obtain ⟨e1, _⟩ := (ev_rep c.tm c.gl h1).val_inv
  refine Goal.pure c (v := .string (s.extract l h)) ?_ (.val rfl)
  simp only [execOp, ho, e1]
  refine run_v ?_
  have := sliceBounds_run (P := E.P) (b := false) (cap := s.size) (evO_opt c.tm c.gl h2) (evO_opt c.tm c.gl h3) h4 h5 (Nat.le_refl _)
  simp [Instr.sliceAt, Instr.slice, run_under hu, this, Result.andThen]

theorem Rep.nils_inv {v : Value} (h : Rep S ρ w .nils v) : v = .slice none 0 0 := by
  cases h
  rfl

theorem s_sliceNil (c : Cx E S O ρ w m t a) {ty el : TypeId} {x : Operand} {lo hi : Option Operand} (ho : o.op = .slice ty x lo hi none) {vl vh : Option AV} {h l z : Nat} (hu : E.P.underlying ty = some (.slice el)) (hz : szOf E.P el = some z)
    (h1 : ev E t x = some .nils) (h2 : evO E t lo = some vl) (h3 : evO E t hi = some vh) (h4 : boundD 0 0 vh = some h) (h5 : boundD 0 0 vl = some l) :
    Goal E S O ρ w m next ⟨.nils, [], [], []⟩ o a Q := by
  have e1 : a.eval x = .slice none 0 0 := (ev_rep c.tm c.gl h1).nils_inv
  have hh := boundD_le h4 (Nat.le_refl _)
  have hl := boundD_le h5 (Nat.le_refl _)
  have e2 : h = 0 := by omega
  have e3 : l = 0 := by omega
  subst e2
  subst e3
  refine Goal.pure c (v := .slice none 0 0) ?_ .nils
  simp only [execOp, ho, e1]
  refine run_v ?_
  have := sliceBounds_run (P := E.P) (b := true) (cap := 0) (evO_opt c.tm c.gl h2) (evO_opt c.tm c.gl h3) h4 h5 (Nat.le_refl _)
  simp [Instr.sliceAt, Instr.slice, run_under hu, this, Result.andThen, run_size hz]

theorem s_sliceExt (c : Cx E S O ρ w m t a) {ty el : TypeId} {x : Operand} {lo hi : Option Operand} (ho : o.op = .slice ty x lo hi none) {vl vh : Option AV} {h l z n : Nat} {cs : List AV} (hu : E.P.underlying ty = some (.slice el)) (hz : szOf E.P el = some z)
    (h1 : ev E t x = some (.ext cs n)) (h2 : evO E t lo = some vl) (h3 : evO E t hi = some vh) (h4 : boundD n n vh = some h) (h5 : boundD 0 h vl = some l) :
    Goal E S O ρ w m next ⟨.ext ((cs.drop (l * z)).take ((h - l) * z)) (h - l), [], [], []⟩ o a Q := by
  obtain ⟨A, cap, e1, hlc, hn, hone, hA⟩ := (ev_rep c.tm c.gl h1).ext_inv
  have hh := boundD_le h4 (Nat.le_refl _)
  have hl := boundD_le h5 (Nat.zero_le _)
  refine Goal.pure c (v := .slice (if cap = l then A else A.map (·.add (l * z))) (h - l) (cap - l)) ?_ (.ext_of (plainL_take (plainL_drop (ev_rep c.tm c.gl h1).ext_plain _) _) (by omega) (fun hpos => ?_) (fun c hc => hone c (List.mem_of_mem_drop (List.mem_of_mem_take hc))) (fun hne => ?_))
  · simp only [execOp, ho, e1]
    refine run_v ?_
    have := sliceBounds_run (P := E.P) (b := true) (cap := cap) (evO_opt c.tm c.gl h2) (evO_opt c.tm c.gl h3) h4 h5 hlc
    simp [Instr.sliceAt, Instr.slice, run_under hu, this, Result.andThen, run_size hz]
  · rw [if_neg (by omega)]
    have := hn (by omega)
    simpa using this
  · have hpos : 0 < h - l := by
      rcases Nat.eq_zero_or_pos (h - l) with h0 | h0
      · rw [h0] at hne; simp at hne
      · exact h0
    have hcs : cs ≠ [] := fun e => hne (by subst e; simp)
    obtain ⟨b, e3, hs, hr⟩ := hA hcs
    subst e3
    rw [if_neg (by omega)]
    exact ⟨b.add (l * z), rfl, by rw [blk_add]; exact hs, (hr.drop _).take _⟩

theorem s_sliceSl (c : Cx E S O ρ w m t a) {ty el : TypeId} {x : Operand} {lo hi : Option Operand} (ho : o.op = .slice ty x lo hi none) {vl vh : Option AV} {h l z z' n id off : Nat} {r : Row} (hu : E.P.underlying ty = some (.slice el)) (hz : szOf E.P el = some z)
    (h1 : ev E t x = some (.sl id off n z')) (hr : m id = some r) (hlive : r.live = true) (hzz : r.ty = .nil ∨ z' = z) (hz0 : z ≠ 0)
    (h2 : evO E t lo = some vl) (h3 : evO E t hi = some vh) (h4 : boundD n (max n ((r.cells.length - off) / z)) vh = some h) (h5 : boundD 0 h vl = some l) :
    Goal E S O ρ w m next ⟨.sl id (off + l * z) (h - l) z, [], [], [id]⟩ o a Q := by
  obtain ⟨A, cap, x', e1, hx, hlc, hc, h0⟩ := (ev_rep c.tm c.gl h1).sl_inv
  have hok := c.mr.at_ hr hlive hx
  have hh := boundD_le h4 (by omega)
  have hl := boundD_le h5 (Nat.zero_le _)
  -- the capacity has all cells that are known; where there is a block, elements have one size
  have hz1 : 0 < cap → z' = z := by
    intro hp
    obtain ⟨L, rfl, _⟩ := hc hp
    rcases hzz with h | h
    · exact absurd h hok.1
    · exact h
  have hY : max n ((r.cells.length - off) / z) ≤ cap := by
    refine Nat.max_le.2 ⟨hlc, ?_⟩
    rcases Nat.eq_zero_or_pos cap with hp | hp
    · cases x' with
      | none => rw [hok.1]; simp
      | some L => have h6 := h0 hp L rfl; have h7 := hok.2.1; rw [show r.cells.length - off = 0 by omega]; simp
    · obtain ⟨L, rfl, _, h6, _⟩ := hc hp
      have h7 := hok.2.1
      rw [hz1 hp] at h6
      calc (r.cells.length - off) / z ≤ (cap * z) / z := Nat.div_le_div_right (by omega)
        _ = cap := Nat.mul_div_cancel _ (Nat.pos_of_ne_zero hz0)
  refine Goal.pure c (v := .slice (if cap = l then A else A.map (·.add (l * z))) (h - l) (cap - l)) ?_ ?_
  · simp only [execOp, ho, e1]
    refine run_v ?_
    have := sliceBounds_run (P := E.P) (b := true) (cap := cap) (evO_opt c.tm c.gl h2) (evO_opt c.tm c.gl h3) h4 h5 hY
    simp [Instr.sliceAt, Instr.slice, run_under hu, this, Result.andThen, run_size hz]
  · have hmul : (cap - l) * z = cap * z - l * z := Nat.sub_mul _ _ _
    have hle : l * z ≤ cap * z := Nat.mul_le_mul_right _ (by omega)
    refine .sl hx (by omega) (fun hp => ?_) (fun hp L e => ?_)
    · have hp0 : 0 < cap := Nat.lt_of_lt_of_le hp (Nat.sub_le _ _)
      obtain ⟨L, e2, e3, h6, h7⟩ := hc hp0
      rw [hz1 hp0] at h6 h7
      have g1 : L.size ≤ off + l * z + (cap - l) * z := by omega
      have g2 : L.base + (off + l * z) + (cap - l) * z ≤ L.bsz := by omega
      refine ⟨L, e2, ?_, g1, g2⟩
      rw [e3]
      rw [if_neg (by omega)]
      simp [Addr.add_lit, Nat.add_assoc]
    · rcases Nat.eq_zero_or_pos cap with hp' | hp'
      · have := h0 hp' L e; omega
      · obtain ⟨L', e', _, h6, _⟩ := hc hp'
        rw [e] at e'
        cases e'
        rw [hz1 hp'] at h6
        have : l * z = cap * z := by rw [show l = cap by omega]
        omega

theorem s_sliceArr (c : Cx E S O ρ w m t a) {ty el : TypeId} {x : Operand} {lo hi : Option Operand} (ho : o.op = .slice ty x lo hi none) {vl vh : Option AV} {h l z n id off : Nat} {r : Row} (hu : E.P.underlying ty = some (.array n el)) (hz : szOf E.P el = some z)
    (h1 : ev E t x = some (.ptr id off)) (hr : m id = some r) (hlive : r.live = true) (hlen : r.cells.length = off + n * z) (hz0 : z ≠ 0)
    (h2 : evO E t lo = some vl) (h3 : evO E t hi = some vh) (h4 : boundD n n vh = some h) (h5 : boundD 0 h vl = some l) :
    Goal E S O ρ w m next ⟨.sl id (off + l * z) (h - l) z, [], [], [id]⟩ o a Q := by
  obtain ⟨L, hL, e1⟩ := (ev_rep c.tm c.gl h1).ptr_inv
  have hok := c.mr.at_ hr hlive hL
  have hh := boundD_le h4 (Nat.le_refl _)
  have hl := boundD_le h5 (Nat.zero_le _)
  refine Goal.pure c (v := .slice (some (if n = l then ⟨L.blk, L.base + off, none⟩ else (⟨L.blk, L.base + off, none⟩ : Addr).add (l * z))) (h - l) (n - l)) ?_ ?_
  · simp only [execOp, ho, e1]
    refine run_v ?_
    have := sliceBounds_run (P := E.P) (b := false) (cap := n) (evO_opt c.tm c.gl h2) (evO_opt c.tm c.gl h3) h4 h5 (Nat.le_refl _)
    simp [Instr.sliceAt, run_under hu, this, Result.andThen, run_size hz, Instr.sureAddr]
  · have hmul : (n - l) * z = n * z - l * z := Nat.sub_mul _ _ _
    have hle : l * z ≤ n * z := Nat.mul_le_mul_right _ (by omega)
    have h7 := hok.2.1
    have h8 := hok.2.2.1
    refine .sl hL (by omega) (fun hp => ⟨L, rfl, ?_, by omega, by omega⟩) (fun hp L' e => ?_)
    · rw [if_neg (by omega)]
      simp [Addr.add_lit, Nat.add_assoc]
    · cases e
      have : l * z = n * z := by rw [show l = n by omega]
      omega
end
end Go.AI
