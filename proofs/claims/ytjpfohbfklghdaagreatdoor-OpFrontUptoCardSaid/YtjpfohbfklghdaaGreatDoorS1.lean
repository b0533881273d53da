/-
  Plain laws of layers 3, 4, 6, 15: characters, values, codes; no program in sight.
-/
import Derived.Test.YtjpfohbfklghdaaGreatDoorN1
set_option linter.all false
set_option linter.unusedVariables false
set_option maxRecDepth 20000
namespace Go.AI

abbrev vi (n : Int) : AV := .val (.int .i64 n)
abbrev vu (n : Int) : AV := .val (.int .u64 n)
abbrev vc (n : Int) : AV := .val (.int .u8 n)
abbrev vb (b : Bool) : AV := .val (.bool b)
abbrev vs (s : ByteArray) : AV := .val (.string s)

/-! Characters -/
def isC (b : UInt8) : Bool := decide (128 ≤ b.toNat) && decide (b.toNat < 192)
def num2 (b b1 : UInt8) : Nat := (b.toNat - 192) * 64 + (b1.toNat - 128)
def num3 (b b1 b2 : UInt8) : Nat := ((b.toNat - 224) * 64 + (b1.toNat - 128)) * 64 + (b2.toNat - 128)
def num4 (b b1 b2 b3 : UInt8) : Nat := (((b.toNat - 240) * 64 + (b1.toNat - 128)) * 64 + (b2.toNat - 128)) * 64 + (b3.toNat - 128)
def chrU (c : Nat) : Bool := decide (c ≤ 1114111) && (decide (c < 55296) || decide (57343 < c))

/-- The character at the front, and its bytes. -/
def nextU : List UInt8 → Int × Nat
  | [] => (-1, 0)
  | b :: r =>
    if b.toNat < 128 then (b.toNat, 1) else
    if b.toNat < 192 then (-1, 1) else
    if b.toNat < 224 then match r with
      | b1 :: _ => if isC b1 = true ∧ 128 ≤ num2 b b1 then (num2 b b1, 2) else (-1, 1)
      | [] => (-1, 1)
    else if b.toNat < 240 then match r with
      | b1 :: b2 :: _ => if isC b1 = true ∧ isC b2 = true ∧ 2048 ≤ num3 b b1 b2 ∧ chrU (num3 b b1 b2) = true then (num3 b b1 b2, 3) else (-1, 1)
      | _ => (-1, 1)
    else if b.toNat < 248 then match r with
      | b1 :: b2 :: b3 :: _ => if isC b1 = true ∧ isC b2 = true ∧ isC b3 = true ∧ 65536 ≤ num4 b b1 b2 b3 ∧ chrU (num4 b b1 b2 b3) = true then (num4 b b1 b2 b3, 4) else (-1, 1)
      | _ => (-1, 1)
    else (-1, 1)

theorem nextU_step : ∀ l : List UInt8, l ≠ [] → 1 ≤ (nextU l).2 ∧ (nextU l).2 ≤ l.length ∧ (-1 ≤ (nextU l).1) ∧ (nextU l).1 ≤ 1114111
  | [], h => absurd rfl h
  | b :: r, _ => by
    have hb := b.toNat_lt
    simp only [nextU]
    split
    · simp; omega
    split
    · simp
    split
    · split
      · split
        · rename_i h; simp only [num2, isC, Bool.and_eq_true, decide_eq_true_eq, List.length_cons] at *; omega
        · simp
      · simp
    split
    · split
      · rename_i b1 b2 _
        split
        · rename_i h; simp only [chrU, Bool.and_eq_true, decide_eq_true_eq, List.length_cons] at *; omega
        · simp
      · simp
    split
    · split
      · rename_i b1 b2 b3 _
        split
        · rename_i h; simp only [chrU, Bool.and_eq_true, decide_eq_true_eq, List.length_cons] at *; omega
        · simp
      · simp
    · simp

/-- The place of the first byte at which no character stands. -/
def faultU : Nat → List UInt8 → Nat → Nat
  | 0, _, at_ => at_
  | n + 1, l, at_ => if at_ < l.length then (if (nextU (l.drop at_)).1 < 0 then at_ else faultU n l (at_ + (nextU (l.drop at_)).2)) else at_

theorem faultU_le : ∀ (n : Nat) (l : List UInt8) (a : Nat), a ≤ l.length → faultU n l a ≤ l.length
  | 0, l, a, h => h
  | n + 1, l, a, h => by
    unfold faultU
    split
    · rename_i hlt
      split
      · omega
      · refine faultU_le n l _ ?_
        have hne : l.drop a ≠ [] := by simp; omega
        have := nextU_step _ hne
        simp only [List.length_drop] at this
        omega
    · omega

/-- One round of the loop, for any fuel that is enough. -/
theorem faultU_more : ∀ (n m : Nat) (l : List UInt8) (a : Nat), a ≤ l.length → l.length - a ≤ n → l.length - a ≤ m → faultU n l a = faultU m l a
  | 0, 0, l, a, h, h1, h2 => rfl
  | 0, m + 1, l, a, h, h1, h2 => by simp only [faultU]; rw [if_neg (by omega)]
  | n + 1, 0, l, a, h, h1, h2 => by simp only [faultU]; rw [if_neg (by omega)]
  | n + 1, m + 1, l, a, h, h1, h2 => by
    simp only [faultU]
    split
    · split
      · rfl
      · have hne : l.drop a ≠ [] := by simp; omega
        have := nextU_step _ hne
        simp only [List.length_drop] at this
        exact faultU_more n m l _ (by omega) (by omega) (by omega)
    · rfl

def fU (s : ByteArray) : Nat := faultU s.data.toList.length s.data.toList 0
def validU (s : ByteArray) : Bool := (fU s : Int) == (s.size : Int)
def eB (s : ByteArray) : Bool := s.data.toList == []

/-! Values, codes -/
structure Vl where
  kind : Int
  n : Int
  s : ByteArray
structure Col where
  name : ByteArray
  tag : Int
  kind : Int
structure Ins where
  word : Int
  a : Int
  b : Int
  sep : ByteArray
  val : Vl
structure Ot where
  tag : Int
  place : Int
structure Cd where
  inn : List Col
  ops : List Ins
  out : List Ot

def vlC (v : Vl) : List AV := [vi v.kind, vu v.n, vs v.s]
def colC (c : Col) : List AV := [vs c.name, vi c.tag, vi c.kind]
def insC (o : Ins) : List AV := [vi o.word, vi o.a, vi o.b, vs o.sep, vi o.val.kind, vu o.val.n, vs o.val.s]
def otC (o : Ot) : List AV := [vi o.tag, vi o.place]
def colsC (l : List Col) : List AV := l.flatMap colC
def inssC (l : List Ins) : List AV := l.flatMap insC
def otsC (l : List Ot) : List AV := l.flatMap otC
def cdC (c : Cd) : List AV := [.ext (colsC c.inn) c.inn.length, .ext (inssC c.ops) c.ops.length, .ext (otsC c.out) c.out.length]

def tagS (t last : Int) : Bool := decide (t > last) && decide (t ≤ 65535)
def kindS (k : Int) : Bool := decide (1 ≤ k) && decide (k ≤ 5)
def validS (v : Vl) : Bool :=
  if v.kind = 1 ∨ v.kind = 2 then eB v.s else if v.kind = 3 then decide (v.n ≤ 1) && eB v.s else if v.kind = 4 then (v.n == 0) && validU v.s else if v.kind = 5 then v.n == 0 else false

def fromL : List Int := [1, 2, 1, 2, 4, 4, 3, 4, 3, 1, 4, 5]
def toL : List Int := [2, 1, 4, 4, 1, 2, 4, 3, 1, 3, 5, 4]
def fromS (n : Int) : Int := if 1 ≤ n ∧ n ≤ 12 then fromL.getD (n - 1).toNat 0 else 0
def toS (n : Int) : Int := if 1 ≤ n ∧ n ≤ 12 then toL.getD (n - 1).toNat 0 else 0
def atS (kinds : List Int) (i : Int) : Int := if 0 ≤ i ∧ i < kinds.length then kinds.getD i.toNat 0 else 0

/-- Nothing in the fields that the word doesn't have. -/
def bareS (o : Ins) : Bool :=
  (decide (o.word ≠ 2) || o.a == 0) && (decide (o.word = 3 ∨ o.word = 6) || o.b == 0) && (decide (o.word ≥ 4) || eB o.sep) && (decide (o.word = 2) || (o.val.kind == 0 && o.val.n == 0 && eB o.val.s))

def mkS (inn : List Col) (kinds : List Int) (o : Ins) : Option Int :=
  if bareS o = false then none else
  if o.word = 1 then (if 0 ≤ o.a ∧ o.a < inn.length then (inn[o.a.toNat]?).map (·.kind) else none) else
  if o.word = 2 then (if validS o.val = true then some o.val.kind else none) else
  if o.word = 3 then (if fromS o.b ≠ 0 ∧ atS kinds o.a = fromS o.b then some (toS o.b) else none) else
  if o.word = 4 ∨ o.word = 5 then (if atS kinds o.a = 4 ∧ eB o.sep = false ∧ validU o.sep = true then some 4 else none) else
  if o.word = 6 then (if atS kinds o.a = 4 ∧ atS kinds o.b = 4 ∧ validU o.sep = true then some 4 else none) else none

/-- The columns stand in order. -/
def inS : Int → List Col → Bool
  | _, [] => true
  | last, c :: cs => tagS c.tag last && kindS c.kind && eB c.name && inS c.tag cs

def opsS (inn : List Col) : List Int → List Ins → Except Nat (List Int)
  | kinds, [] => .ok kinds
  | kinds, o :: os => if kinds.length ≥ 1048576 then .error kinds.length else match mkS inn kinds o with
    | none => .error kinds.length
    | some k => opsS inn (kinds ++ [k]) os

def outS (n : Nat) : Int → Nat → List Ot → Option Nat
  | _, _, [] => none
  | last, i, o :: os => if tagS o.tag last && decide (0 ≤ o.place) && decide (o.place < n) then outS n o.tag (i + 1) os else some i

/-- What Check answers: the kinds, a place, an error. -/
def chkS (c : Cd) : List Int × Int × Int :=
  if inS 0 c.inn = false then ([], -1, 150) else
  match opsS c.inn [] c.ops with
  | .error i => ([], i, 150)
  | .ok kinds => match outS c.ops.length 0 0 c.out with
    | some j => ([], c.ops.length + j, 150)
    | none => (kinds, 0, 0)

theorem kindS_of_in : ∀ (l : List Col) (last : Int), inS last l = true → ∀ c ∈ l, kindS c.kind = true
  | [], _, _, c, hc => by simp at hc
  | d :: l, last, h, c, hc => by
    simp only [inS, Bool.and_eq_true] at h
    rcases List.mem_cons.1 hc with rfl | hc
    · exact h.1.1.2
    · exact kindS_of_in l _ h.2 c hc

theorem validS_kind {v : Vl} (h : validS v = true) : kindS v.kind = true := by
  unfold validS at h
  unfold kindS
  simp only [Bool.and_eq_true, decide_eq_true_eq]
  split at h
  · omega
  split at h
  · omega
  split at h
  · omega
  split at h
  · omega
  · cases h

theorem toS_kind {n : Int} (h : fromS n ≠ 0) : kindS (toS n) = true := by
  unfold fromS at h
  split at h
  case isFalse => exact absurd rfl h
  rename_i hn
  unfold toS
  rw [if_pos hn]
  have : ∀ m : Nat, m < 12 → kindS (toL.getD m 0) = true := by decide
  exact this _ (by omega)

theorem mkS_kind {inn : List Col} {kinds : List Int} {o : Ins} {k : Int} (hin : ∀ c ∈ inn, kindS c.kind = true) (h : mkS inn kinds o = some k) : kindS k = true := by
  unfold mkS at h
  split at h
  · cases h
  split at h
  · split at h
    · obtain ⟨c, hc, rfl⟩ := Option.map_eq_some_iff.1 h
      exact hin c (List.mem_of_getElem? hc)
    · cases h
  split at h
  · split at h
    · rename_i hv; cases h; exact validS_kind hv
    · cases h
  split at h
  · split at h
    · rename_i hv; cases h; exact toS_kind hv.1
    · cases h
  split at h
  · split at h
    · cases h; rfl
    · cases h
  split at h
  · split at h
    · cases h; rfl
    · cases h
  · cases h

theorem getD_cells {α : Type} (f : α → List AV) (z : Nat) (hz : ∀ a, (f a).length = z) : ∀ (l : List α) (i : Nat) (a : α), l[i]? = some a → ∃ rest, (l.flatMap f).drop (i * z) = f a ++ rest
  | [], i, a, h => by simp at h
  | b :: l, 0, a, h => by
    simp at h; subst h
    exact ⟨l.flatMap f, by simp⟩
  | b :: l, i + 1, a, h => by
    obtain ⟨rest, hr⟩ := getD_cells f z hz l i a (by simpa using h)
    refine ⟨rest, ?_⟩
    rw [List.flatMap_cons, show (i + 1) * z = (f b).length + i * z by rw [hz b, Nat.succ_mul, Nat.add_comm], List.drop_length_add_append]
    exact hr

theorem drop_cells {α : Type} (f : α → List AV) (z : Nat) (hz : ∀ a, (f a).length = z) : ∀ (l : List α) (i : Nat), (l.flatMap f).drop (i * z) = (l.drop i).flatMap f
  | [], i => by simp
  | b :: l, 0 => by simp
  | b :: l, i + 1 => by
    rw [List.flatMap_cons, show (i + 1) * z = (f b).length + i * z by rw [hz b, Nat.succ_mul, Nat.add_comm], List.drop_length_add_append, drop_cells f z hz l i]
    rfl

theorem len_cells {α : Type} (f : α → List AV) (z : Nat) (hz : ∀ a, (f a).length = z) : ∀ (l : List α), (l.flatMap f).length = l.length * z
  | [] => by simp
  | b :: l => by rw [List.flatMap_cons, List.length_append, hz, len_cells f z hz l, List.length_cons, Nat.succ_mul, Nat.add_comm]

end Go.AI
