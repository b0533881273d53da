/-
  strings.Builder's copyCheck and String, as the model runs them. Conditions: those that each theorem lists (lengths far below the greatest).
-/
import Derived.Test.YtjpfohbfklghdaaGreatDoorD1
import Derived.WalkKit
import Derived.Lib.Builder
import Derived.Lib.UnsafeStr
import Derived.Laws.Externs
set_option linter.all false
set_option linter.unusedVariables false
set_option maxRecDepth 100000
namespace Go.AI
open Go.Proofs Go.RowKit

theorem lies104 (k : Nat) : liesAt Tryz.prog Tryz.prog.depth 104 (k + 1) 0 102 1 = true := by kernel_rfl

theorem info102 : ∃ j, Tryz.prog.info? 102 = some j ∧ j.size = 2 := by
  have h : (Tryz.prog.info? 102).map (·.size) = some 2 := by kernel_rfl
  obtain ⟨j, h1, h2⟩ := Option.map_eq_some_iff.1 h
  exact ⟨j, h1, h2⟩

set_option maxHeartbeats 1000000 in
/-- copyCheck at a builder that has been used. -/
theorem cc_used (b : Nat) (w : World) (h0 : w.cell? ⟨b, 0, none⟩ = some (.pointer (some ⟨b, 0, none⟩))) :
    Calls Tryz.prog 163 #[.pointer (some ⟨b, 0, none⟩)] w fun e w' => e = .returned (.tuple #[]) ∧ w' = w := by
  obtain ⟨j, hj, hjs⟩ := info102
  go_enter Tryz.func163, Tryz.ntmps163
  go_wp2
  rw [Lib.run_neq_ptr_same w _ Tryz.underlying100 hj]
  go_wp2
  go_end0
  exact ⟨rfl, rfl⟩

set_option maxHeartbeats 1000000 in
/-- copyCheck at a fresh builder: it stores its own address. -/
theorem cc_fresh (b n : Nat) (w : World) (h0 : w.cell? ⟨b, 0, none⟩ = some (.pointer none)) (hsh : w.shape? b = some (104, n)) (hn : 2 ≤ n) (hfz : w.frozen? ⟨b, 0, none⟩ = false) :
    Calls Tryz.prog 163 #[.pointer (some ⟨b, 0, none⟩)] w fun e w' => e = .returned (.tuple #[]) ∧ w' = w.setCell ⟨b, 0, none⟩ (.pointer (some ⟨b, 0, none⟩)) := by
  obtain ⟨j, hj, hjs⟩ := info102
  have hl : liesAt Tryz.prog Tryz.prog.depth 104 (n / Tryz.prog.cellsOf 104) 0 102 1 = true := by
    have hc : Tryz.prog.cellsOf 104 = 2 := by kernel_rfl
    rw [hc]
    obtain ⟨k, hk⟩ : ∃ k, n / 2 = k + 1 := ⟨n / 2 - 1, by omega⟩
    rw [hk]
    exact lies104 k
  go_enter Tryz.func163, Tryz.ntmps163
  go_wp2
  rw [Lib.run_to_unsafe w ⟨b, 0, none⟩ Tryz.underlying100 Tryz.underlying232 hj (by rw [hjs]; decide) hsh (by show 0 < n; omega)]
  simp only [Result.andThen]
  rw [Oper.upon_value]
  go_wp2
  rw [run_callFunc_extern Tryz.func195 (by kernel_rfl) (by kernel_rfl) (by kernel_rfl) (e := Extern.AbiNoEscape.same) (by kernel_rfl)]
  rw [Lib.run_noEscape]
  simp only [Result.andThen]
  rw [Oper.upon_value]
  go_wp2
  rw [Lib.run_from_unsafe w ⟨b, 0, none⟩ Tryz.underlying232 Tryz.underlying100 hj hsh hl]
  simp only [Result.andThen]
  rw [Oper.upon_value]
  go_wp2
  go_end0
  exact ⟨rfl, rfl⟩

set_option maxHeartbeats 2000000 in
/-- String of a builder that holds a byte. -/
theorem str_calls (b g cap m : Nat) (l : List UInt8) (w : World) (h1 : w.cell? ⟨b, 1, none⟩ = some (.slice (some ⟨g, 0, none⟩) l.length cap)) (hsh : w.shape? g = some (5, m)) (h0 : l ≠ []) (hlm : l.length ≤ m) (hl63 : l.length ≤ 9223372036854775807) (hc0 : cap ≠ 0)
    (hcell : ∀ j x, l[j]? = some x → w.cell? ((⟨g, 0, none⟩ : Addr).add j) = some (.int .u8 x.toNat)) :
    Calls Tryz.prog 69 #[.pointer (some ⟨b, 0, none⟩)] w fun e w' => e = .returned (.string ⟨l.toArray⟩) ∧ w' = w.drew.freeze ⟨g, 0, none⟩ l.length := by
  have c1 : w.drew.cell? ⟨b, 1, none⟩ = some (.slice (some ⟨g, 0, none⟩) l.length cap) := h1
  have hSD : (Builtin.unsafeSliceData_ #[40] 165 #[.slice (some ⟨g, 0, none⟩) l.length cap]).run Tryz.prog w.drew = .ok (.pointer (some ⟨g, 0, none⟩)) w.drew :=
    Lib.run_unsafeSliceData_row _ _ _ _ _ _ hc0
  have hUS : (Builtin.unsafeString_ #[165, 3] 9 #[.pointer (some ⟨g, 0, none⟩), .int .i64 l.length]).run Tryz.prog w.drew = .ok (.string ⟨l.toArray⟩) (w.drew.freeze ⟨g, 0, none⟩ l.length) :=
    Lib.run_unsafeString_row w.drew 165 3 9 5 Tryz.underlying165 (by kernel_rfl) g m hsh l h0 hlm hl63 hcell
  go_enter Tryz.func69, Tryz.ntmps69
  go_wp2
  go_region
  all_goals (go_wp2; go_ret; exact ⟨rfl, rfl⟩)
end Go.AI
