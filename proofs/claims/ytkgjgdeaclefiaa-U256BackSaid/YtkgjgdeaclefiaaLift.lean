/-
  From a walk to the row: what all laws of this seat share.
-/
import Derived.Test.YtkgjgdeaclefiaaFacts
import Derived.Test.YtkgjgdeaclefiaaVals
import Derived.WalkKit
import Derived.ProofKit
import Derived.OpenShut
import Derived.Laws.IdiomArrays
namespace Go.Proofs.Ytkgjgdeaclefiaa
open Go.ChangeShapes Go.WideShapes Go.ChangeAt Go.RowKit Go.Flo

theorem wd_of_wf {x : Int} (h : (Lit.int .u64 x).wf = true) : Wd x := by
  simp [Lit.wf, IntKind.min, IntKind.max, IntKind.signed, IntKind.bits] at h
  exact ⟨h.1, by omega⟩

set_option maxRecDepth 100000 in
theorem open_four {H : Type} {enc : TypeId × Value → H} {W : World} {r : Reach} {b0 base : Nat} {spare : Nat → Bool} {held : Bool} {t : TypeId} {v : Value} {d : DataW H} {ps : List MemPlace} (ht : Try.prog.underlying t = some (.array 4 30))
    (hsize : Try.prog.cellsOf t = 4) (hval : Value.okWide Try.prog W r b0 t v) (hd : DataW.Trod enc Try.prog W base spare held t v d ps) : ∃ n, n < top ∧ v = uV n := by
  unfold Value.okWide at hval
  rw [ht] at hval
  obtain ⟨cs, rfl, hsz, _⟩ := hval
  obtain ⟨fuel, hf⟩ := hd
  have hl : cs.size = 4 := hsz.trans hsize
  obtain ⟨c0, c1, c2, c3, rfl⟩ : ∃ c0 c1 c2 c3, cs = #[c0, c1, c2, c3] := by
    obtain ⟨l⟩ := cs
    match l, hl with
    | [a, b, c, d], _ => exact ⟨a, b, c, d, rfl⟩
  have hf' : DataW.trod enc Try.prog W base spare held fuel t [c0, c1, c2, c3] = some (d, ps) := hf
  obtain ⟨y0, y1, y2, y3, n, _, h0, h1, h2, h3⟩ := trod_array4 ht (by kernel_rfl) hf'
  obtain ⟨x0, e0, _, w0⟩ := DataW.trod_int Try.underlying30 h0
  obtain ⟨x1, e1, _, w1⟩ := DataW.trod_int Try.underlying30 h1
  obtain ⟨x2, e2, _, w2⟩ := DataW.trod_int Try.underlying30 h2
  obtain ⟨x3, e3, _, w3⟩ := DataW.trod_int Try.underlying30 h3
  cases e0; cases e1; cases e2; cases e3
  obtain ⟨m, hm⟩ := is4_made (wd_of_wf w0) (wd_of_wf w1) (wd_of_wf w2) (wd_of_wf w3)
  exact ⟨m, hm.lt, hm.uV⟩
end Go.Proofs.Ytkgjgdeaclefiaa
