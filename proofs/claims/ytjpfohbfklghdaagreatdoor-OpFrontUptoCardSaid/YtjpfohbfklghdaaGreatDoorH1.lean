/-
  stratumlaw15.OpFront answers true for every code and number of bulk at most 1048576, and leaves them as they were: the row's contract.
  Its conditions: those of the given row (package-level variables as the program's text lays them).
-/
import Derived.Test.YtjpfohbfklghdaaGreatDoorG1
import Derived.Test.YtjpfohbfklghdaaGreatDoorD22
set_option linter.all false
set_option maxRecDepth 100000
namespace Go.AI
theorem RepP.agg {S : Nat → Prop} {ρ : Map} {w : World} {as0 : List AV} {vs : Array Value} (h : RepP S ρ w as0 vs.toList) : Rep S ρ w (.agg as0) (.agg vs) := by
  have hl := h.length
  refine .agg (by simpa using hl) (fun c hc => ?_) (fun j c v hc hv => ?_)
  · obtain ⟨j, hj⟩ := List.getElem?_of_mem hc
    have hjl : j < vs.toList.length := by rw [← hl]; exact (List.getElem?_eq_some_iff.1 hj).1
    exact (h.get j c _ hj (List.getElem?_eq_getElem hjl)).2.2
  · exact (h.get j c v hc (by simpa using hv)).1
end Go.AI
namespace Go.Proofs.YtjpfohbfklghdaaGreatDoor.opFront
open Go.ChangeShapes Go.WideShapes Go.ChangeAt Go.RowKit Go.AI
open Go.Proofs.YtjpfohbfklghdaaGreatDoor.opChecks (own glob laidOut kept_of_below)

/-- What the machine's contract says of a call on what was there before. -/
theorem call_ofN {f : FuncId} {as0 : List AV} {vals : Array Value} {W : World} (h : FnOk E0 f as0 [] (vb true) []) (hg : GlobOk E0 (fun b => b < W.heap.size) W) (hr : RepL (fun b => b < W.heap.size) (fun _ => none) W as0 vals.toList) :
    Calls Tryz.prog f vals W fun e W' => e = .returned (.bool true) ∧ Below W.heap.size W W' := by
  refine (h (fun b => b < W.heap.size) (fun b => W.heap.size ≤ b) (fun _ => none) W vals ⟨fun _ h => h, fun b h h' => by omega, fun _ h => h⟩ hg hr ⟨fun id r h => by simp at h, fun id r x h => by simp at h, fun id id' r r' L L' h => by simp at h⟩ (fun _ _ => rfl)).mono ?_
  rintro e W' ⟨u, ρ', rfl, _, _, k, hu, _⟩
  have : u = .bool true := hu.val_inv.1
  subst this
  exact ⟨rfl, k.os, k.tape, k.output, k.size, fun b hb => k.block b hb (by omega)⟩

theorem contract (H : Type) (enc : TypeId × Value → H) (W : World) (base : Nat) (args : Array Value) (ds gs : List (DataW H)) (before : List MemPlace)
    (hval : ∀ (j : Nat) t v, Tryz.f8.params[j]? = some t → args[j]? = some v → Value.okWide Tryz.prog W .any base t v)
    (hW : DataW.Whole enc Tryz.prog Tryz.f8.params.toList Rows.opFrontSpec.vars false W args.toList ds gs before) (hk : Rows.uptoSmall H (ds ++ gs) = true) (hL : laidMet Tryz.prog Rows.opFrontUptoRow.laid W) :
    Calls Tryz.prog 8 args W fun e W' => ∃ v, e = .returned v ∧ Rows.opFrontSpec.post enc Tryz.prog Tryz.f8 false true false false W args v W' := by
  have hW' := hW
  obtain ⟨p, q, hA0, hV, rfl, hfz, hnd⟩ := hW
  have hA : DataW.TrodAll enc Tryz.prog W 0 (fun _ => true) true Tryz.f8.params.toList args.toList ds p := hA0
  rw [Tryz.params8] at hA hval
  obtain ⟨v0, v1, d0, d1, p0, p1, rfl, rfl, rfl, h0, h1⟩ := trodAll_two hA
  obtain ⟨rfl, rfl⟩ := trodVars_none hV
  clear hA0
  obtain ⟨n, rfl, rfl, rfl, wn⟩ := open_int Tryz.underlying3 (hval 1 3 v1 rfl rfl) h1
  simp only [List.append_nil] at hW' hk
  have hbulk : Rows.uptoBulk d0 ≤ 1048576 := by
    have : Rows.uptoBulkAll [d0, .lit (.int .i64 n)] ≤ 1048576 := of_decide_eq_true hk
    simp only [Rows.uptoBulkAll] at this
    omega
  obtain ⟨fuel, ht⟩ := h0
  obtain ⟨cs, rfl, _⟩ := okWide_struct Tryz.underlying26 (hval 0 26 v0 rfl rfl)
  obtain ⟨c, hrep, hg⟩ := cd_of (S := fun b => b < W.heap.size) (ρ := fun _ => none) (cs := cs.toList) (fun _ h => h) ht
  have hg : goodC c (Rows.uptoBulk d0) := hg
  obtain ⟨k1, k2, k3, k4⟩ := hg
  have hsm : small c := ⟨by omega, by omega, by omega, fun o ho => by
    obtain ⟨q1, q2⟩ := k4 o ho
    omega⟩
  refine (call_ofN (vals := #[.agg cs, .int .i64 n]) (opFront_of awake_ok c n hsm) (glob hL) ⟨hrep.agg, .val rfl, trivial⟩).mono fun e W' ⟨he, hb⟩ => ?_
  subst he
  have hlt : ∀ x ∈ p0, x.block < W.heap.size := fun x hx => by simpa using hW'.lt x (by simpa using hx)
  exact ⟨_, rfl, [d0, .lit (.int .i64 n)], [], _, [], _, [], hW', trodAll_cons_mk (shut_bool Tryz.underlying4 _) trodAll_mk0, trodAll_cons_mk (Below.trod laidOut (by kernel_rfl) (of_decide_eq_true (by kernel_rfl)) ⟨fuel, ht⟩ hb hlt) (trodAll_cons_mk (shut_int Tryz.underlying3 wn) trodAll_mk0), rfl, kept_of_below hb _, fun h => by cases h⟩
end Go.Proofs.YtjpfohbfklghdaaGreatDoor.opFront
