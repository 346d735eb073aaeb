/-
  What every row asks of the program alone.
-/
import Derived.Test.YtkgjgdeaclefiaaRows
import Derived.WalkKit
import Derived.ProofKit
import Derived.OpenShut
namespace Go.Proofs.Ytkgjgdeaclefiaa
open Go Go.Proofs

theorem own : ownKnob Try.prog.godebug = none := by kernel_rfl
theorem laidOut : laidOutB Try.prog = true := by kernel_rfl

/-! ### Facts of the program alone, that every row of it asks for -/
theorem pf_maps : mapsRowed Try.pinned.checked.prog = true := by kernel_rfl
theorem pf_stops : (Try.pinned.checked.prog.stops == []) = true := by kernel_rfl
theorem pf_knobs : (Try.pinned.checked.prog.stopKnobs == []) = true := by kernel_rfl
theorem pf_plain : (Rows.hashBackRow.plainKeys == Try.pinned.checked.prog.plainKeys) = true := by kernel_rfl
theorem pf_heard : Try.pinned.checked.prog.stopsHeard = true := by kernel_rfl
theorem pf_enter : Try.pinned.checked.prog.mayEnter = true := by kernel_rfl
theorem pf_lifts : (Rows.hashBackRow.lifted == Try.pinned.checked.prog.liftsFinal) = true := by kernel_rfl
theorem pf_make : (Try.pinned.checked.prog.make == some Rows.hashBackRow.make) = true := by kernel_rfl
theorem and_mk {a b : Bool} (ha : a = true) (hb : b = true) : (a && b) = true := by rw [ha, hb]; rfl

end Go.Proofs.Ytkgjgdeaclefiaa
