/-
  law15.awake answers true. Conditions: those that each theorem lists (lengths far below the greatest).
-/
import Derived.Test.YtjpfohbfklghdaaGreatDoorK2
set_option linter.all false
set_option linter.unusedVariables false
set_option maxRecDepth 100000
namespace Go.AI
open Go.Proofs

def bytesB : List AV → Option (List UInt8)
  | [] => some []
  | .val (.int .u8 n) :: cs => if n = ((UInt8.ofNat n.toNat).toNat : Int) then (bytesB cs).map fun l => UInt8.ofNat n.toNat :: l else none
  | _ => none
theorem bytesB_spec : ∀ {cs : List AV} {l : List UInt8}, bytesB cs = some l → cs = l.map fun x => vc x.toNat
  | [], l, h => by simp only [bytesB] at h; cases h; rfl
  | c :: cs, l, h => by
    unfold bytesB at h
    split at h
    · cases h; rename_i e; cases e
    · rename_i n cs' e
      cases e
      split at h
      · rename_i hn
        obtain ⟨l', h1, rfl⟩ := Option.map_eq_some_iff.1 h
        rw [bytesB_spec h1]
        simp only [List.map_cons]
        rw [← hn]
      · cases h
    · cases h

/-- Functions whose contracts stand by themselves. -/
def known (f : FuncId) (args : List AV) (rows : List Row) : Option (AV × List Row) :=
  if f = 163 then match args, rows with
    | [.ptr 0 0], ⟨[.val (.pointer none), b], .is 104, true⟩ :: rs => some (.tup [], ⟨[.ptr 0 0, b], .is 104, true⟩ :: rs)
    | [.ptr 0 0], ⟨[.ptr 0 0, b], ty, true⟩ :: rs => some (.tup [], ⟨[.ptr 0 0, b], ty, true⟩ :: rs)
    | _, _ => none
  else if f = 69 then match args, rows with
    | [.ptr 0 0], [⟨[a, .sl 1 0 n 1], ty, true⟩, ⟨cells, .is 5, true⟩] => match bytesB cells with
      | some l => if n = l.length ∧ l ≠ [] ∧ l.length ≤ 9223372036854775807 then some (.val (.string ⟨⟨l⟩⟩), [⟨[a, .sl 1 0 n 1], ty, true⟩, ⟨cells, .is 5, false⟩]) else none
      | none => none
    | _, _ => none
  else none

theorem known_ok {f : FuncId} {args : List AV} {rows : List Row} {p : AV × List Row} (h : known f args rows = some p) : FnOk E0 f args rows p.1 p.2 := by
  unfold known at h
  split at h
  · rename_i hf
    subst hf
    split at h
    · cases h; exact ccF_ok _ _
    · cases h; exact ccU_ok _ _ _
    · cases h
  · split at h
    · rename_i hf
      subst hf
      split at h
      · split at h
        · rename_i l hl
          split at h
          · rename_i hc
            obtain ⟨rfl, h2, h3⟩ := hc
            cases h
            rw [bytesB_spec hl]
            exact str_ok _ _ l h2 h3
          · cases h
        · cases h
      · cases h
    · cases h

noncomputable def stepP (rec : Task → Option Res) : Task → Option Res
  | .fn f args rows => match known f args rows with
    | some p => some (.fn p.1 p.2)
    | none => F E0 rec (.fn f args rows)
  | .loop nt c s => F E0 rec (.loop nt c s)
noncomputable def execP : Nat → Task → Option Res
  | 0 => fun _ => none
  | n + 1 => stepP (execP n)

theorem execP_sound : ∀ n, RecOk E0 (execP n)
  | 0 => ⟨fun f args rows r out h => by simp [execP] at h, fun k nt c s x s' h => by simp [execP] at h⟩
  | n + 1 => ⟨fun f args rows r out h => by
      simp only [execP, stepP] at h
      split at h
      · rename_i p hp
        cases h
        exact known_ok hp
      · exact fn_sound pr0 mo0 (execP_sound n) h,
    fun k nt c s x s' h => by
      simp only [execP, stepP] at h
      exact loop_sound pr0 mo0 (execP_sound n) h⟩

set_option maxHeartbeats 4000000 in
/-- law15.awake -/
theorem awake_ok : FnOk E0 20 [] [] (vb true) [] := (execP_sound 120).fn _ _ _ _ _ (by kernel_rfl)
end Go.AI
