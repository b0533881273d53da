/-
  stratumlaw15.OpChecks answers true for every list of codes of bulk at most 1048576, and leaves the list as it was.
  Its conditions: those of the given row (package-level variables as the program's text lays them).
-/
import Derived.Test.YtjpfohbfklghdaaGreatDoorCards
import Derived.Test.YtjpfohbfklghdaaGreatDoorTie
import Derived.Test.YtjpfohbfklghdaaGreatDoorB2
import Derived.Test.YtjpfohbfklghdaaGreatDoorD20
import Derived.Test.YtjpfohbfklghdaaGreatDoorK3
import Derived.WalkKit
import Derived.ProofKit
import Derived.OpenShut
import Derived.Carry
import Derived.Deep.DeepHandedRow
import Derived.Lib.LaidTab
import Derived.Stop.LaidErr
set_option linter.all false
set_option linter.unusedVariables false
set_option maxRecDepth 100000
namespace Go.Proofs.YtjpfohbfklghdaaGreatDoor.opChecks
open Go.ChangeShapes Go.WideShapes Go.ChangeAt Go.RowKit Go.AI

theorem own : ownKnob Tryz.prog.godebug = none := by kernel_rfl
theorem gTab : Tryz.prog.globalNamed "stratum/op.operands" = some 0 := by kernel_rfl
theorem gTabType : (Tryz.prog.globals[0]?).map (·.type) = some 106 := by kernel_rfl
theorem cells106 : Tryz.prog.cellsOf 106 = 7 := by kernel_rfl
theorem laidOut : laidOutB Tryz.prog = true := by kernel_rfl

/-- What the row's list gives: op's list of operands. -/
theorem table {W : World} (h : laidMet Tryz.prog Rows.opChecksUptoRow.laid W) : Lib.TabIs Tryz.prog W "stratum/op.operands" .i64 [0, 1, 8, 3, 5, 5, 7] :=
  Lib.tabIs_of_head gTab gTabType Tryz.underlying106 Tryz.underlying3 c3 cells106 h.tail.tail.tail.tail.tail.tail

theorem glob {W : World} (h : laidMet Tryz.prog Rows.opChecksUptoRow.laid W) : GlobOk E0 (fun b => b < W.heap.size) W := by
  intro g cs hg ρ
  have hg' : (if g = 0 then some operandsC else none) = some cs := hg
  split at hg'
  case isFalse => cases hg'
  rename_i hg0
  subst hg0
  cases hg'
  have hc : ∀ i, i < 7 → W.cell? ⟨0, i, none⟩ = some (.int .i64 (([0, 1, 8, 3, 5, 5, 7] : List Int).getD i 0)) := fun i hi => (table h).cell gTab i hi
  have hlt : 0 < W.heap.size := by
    have := hc 0 (by decide)
    unfold World.cell? at this
    split at this
    · rename_i hb
      exact (Array.getElem?_eq_some_iff.1 hb).1
    · cases this
  have hadd : ∀ j, ((⟨0, 0, none⟩ : Addr).add j) = ⟨0, j, none⟩ := by
    intro j
    unfold Addr.add
    split
    · rename_i e; subst e; rfl
    · simp
  refine .eptr (fun j => .int .i64 (([0, 1, 8, 3, 5, 5, 7] : List Int).getD j 0)) rfl (fun c hc => ?_) (fun _ => hlt) (fun j hj => ?_) (fun j c hj => ?_)
  · simp only [operandsC, List.mem_cons, List.not_mem_nil, or_false] at hc
    rcases hc with rfl | rfl | rfl | rfl | rfl | rfl | rfl <;> rfl
  · rw [hadd]; exact hc j hj
  · match j, hj with
    | 0, hj => cases hj; exact .val rfl
    | 1, hj => cases hj; exact .val rfl
    | 2, hj => cases hj; exact .val rfl
    | 3, hj => cases hj; exact .val rfl
    | 4, hj => cases hj; exact .val rfl
    | 5, hj => cases hj; exact .val rfl
    | 6, hj => cases hj; exact .val rfl
    | j + 7, hj => simp [operandsC] at hj

theorem kept_of_below {W W' : World} (h : Below W.heap.size W W') (may : MemPlace → Prop) : W.keptBut W' may := by
  refine ⟨h.os, h.output, fun i hi => ?_⟩
  rw [h.block i hi]
  cases W.heap[i]? with
  | none => rfl
  | some o => cases o <;> first | rfl | exact ⟨rfl, rfl, rfl, fun _ _ => rfl⟩ | exact .inr ⟨rfl, rfl⟩

/-- What the machine's contract says of a call on what was there before. -/
theorem call_of {f : FuncId} {a : AV} {v : Value} {W : World} (h : FnOk E0 f [a] [] (vb true) []) (hg : GlobOk E0 (fun b => b < W.heap.size) W) (hr : Rep (fun b => b < W.heap.size) (fun _ => none) W a v) :
    Calls Tryz.prog f #[v] W fun e W' => e = .returned (.bool true) ∧ Below W.heap.size W W' := by
  refine (h (fun b => b < W.heap.size) (fun b => W.heap.size ≤ b) (fun _ => none) W #[v] ⟨fun _ h => h, fun b h h' => by omega, fun _ h => h⟩ hg ⟨hr, trivial⟩ ⟨fun id r h => by simp at h, fun id r x h => by simp at h, fun id id' r r' L L' h => by simp at h⟩ (fun _ _ => rfl)).mono ?_
  rintro e W' ⟨u, ρ', rfl, _, _, k, hu, _⟩
  have : u = .bool true := hu.val_inv.1
  subst this
  exact ⟨rfl, k.os, k.tape, k.output, k.size, fun b hb => k.block b hb (by omega)⟩

theorem contract (H : Type) (enc : TypeId × Value → H) (W : World) (base : Nat) (args : Array Value) (ds gs : List (DataW H)) (before : List MemPlace)
    (hval : ∀ (j : Nat) t v, Tryz.f4.params[j]? = some t → args[j]? = some v → Value.okWide Tryz.prog W .any base t v)
    (hW : DataW.Whole enc Tryz.prog Tryz.f4.params.toList Rows.opChecksSpec.vars false W args.toList ds gs before) (hk : Rows.uptoSmall H (ds ++ gs) = true) (hL : laidMet Tryz.prog Rows.opChecksUptoRow.laid W) :
    Calls Tryz.prog 4 args W fun e W' => ∃ v, e = .returned v ∧ Rows.opChecksSpec.post enc Tryz.prog Tryz.f4 false true false false W args v W' := by
  have hW' := hW
  obtain ⟨p, q, hA0, hV, rfl, hfz, hnd⟩ := hW
  have hA : DataW.TrodAll enc Tryz.prog W 0 (fun _ => true) true Tryz.f4.params.toList args.toList ds p := hA0
  rw [Tryz.params4] at hA hval
  obtain ⟨v0, vs0, d0, ds0, p0, q0, hargs, rfl, rfl, h0, r0⟩ := trodAll_cons hA
  obtain ⟨rfl, rfl, rfl⟩ := trodAll_nil r0
  obtain rfl : args = #[v0] := by cases args; simp_all
  obtain ⟨rfl, rfl⟩ := trodVars_none hV
  clear hA0
  simp only [List.append_nil] at hW' hk
  have hbulk : Rows.uptoBulk d0 ≤ 1048576 := by
    have : Rows.uptoBulkAll [d0] ≤ 1048576 := of_decide_eq_true hk
    simpa [Rows.uptoBulkAll] using this
  obtain ⟨fuel, ht⟩ := h0
  have hv1 : ∃ (l : List Cd), Rep (fun b => b < W.heap.size) (fun _ => none) W (.ext (l.flatMap cdC) l.length) v0 ∧ l.length ≤ Rows.uptoBulk d0 ∧ ∀ c ∈ l, goodC c (Rows.uptoBulk d0) := by
    obtain ⟨a, len, cap, rfl⟩ := okWide_slice Tryz.underlying34 (hval 0 34 v0 rfl rfl)
    obtain ⟨l, v, e, h1, h2, h3⟩ := cds_of (S := fun b => b < W.heap.size) (ρ := fun _ => none) (fun _ h => h) ht
    have e' : [Value.slice a len cap] = [v] := e
    cases e'
    exact ⟨l, h1, h2, h3⟩
  obtain ⟨l, hrep, hlen, hgood⟩ := hv1
  have hsm : ∀ c ∈ l, small c := fun c hc => by
    obtain ⟨k1, k2, k3, k4⟩ := hgood c hc
    exact ⟨by omega, by omega, by omega, fun o ho => by
      obtain ⟨q1, q2⟩ := k4 o ho
      omega⟩
  refine (call_of (opChecks_of awake_ok l (by omega) hsm) (glob hL) hrep).mono fun e W' ⟨he, hb⟩ => ?_
  subst he
  have hlt : ∀ x ∈ p0, x.block < W.heap.size := fun x hx => by simpa using hW'.lt x (by simpa using hx)
  exact ⟨_, rfl, [d0], [], _, [], _, [], hW', trodAll_cons_mk (shut_bool Tryz.underlying4 _) trodAll_mk0, trodAll_cons_mk (Below.trod laidOut (by kernel_rfl) (of_decide_eq_true (by kernel_rfl)) ⟨fuel, ht⟩ hb hlt) trodAll_mk0, rfl, kept_of_below hb _, fun h => by cases h⟩
end Go.Proofs.YtjpfohbfklghdaaGreatDoor.opChecks
