/-
  A chain's rules and a header that come in, opened.
-/
import Derived.Test.YtkgjgdeaclefiaaLft
import Derived.Test.YtkgjgdeaclefiaaRt3
import Derived.Lib.SmallJoins
namespace Go.Proofs.Ytkgjgdeaclefiaa
open Go Go.Proofs Go.ChangeShapes Go.WideShapes Go.ChangeAt Go.RowKit Go.Flo

theorem i64_of_wf {x : Int} (h : (Lit.int .i64 x).wf = true) : -9223372036854775808 ≤ x ∧ x ≤ 9223372036854775807 := by
  simp [Lit.wf, IntKind.min, IntKind.max, IntKind.signed, IntKind.bits] at h
  omega
theorem n32_of_wf {x : Int} (h : (Lit.int .u32 x).wf = true) : ∃ n : Nat, x = (n : Int) ∧ n < 4294967296 := by
  simp [Lit.wf, IntKind.min, IntKind.max, IntKind.signed, IntKind.bits] at h
  exact ⟨x.toNat, by omega, by omega⟩
theorem take_one {α : Type} {l : List α} {k : Nat} {v : α} (h : (l.drop k).take 1 = [v]) : l[k]? = some v := by
  have h2 := congrArg (fun l => l[0]?) h
  simpa [List.getElem?_take, List.getElem?_drop] using h2
set_option maxRecDepth 100000 in
theorem open_header {H : Type} {enc : TypeId × Value → H} {W : World} {r : Reach} {b0 base : Nat} {spare : Nat → Bool} {held : Bool} {v : Value} {d : DataW H} {ps : List MemPlace}
    (hval : Value.okWide Try.prog W r b0 115 v) (hd : DataW.Trod enc Try.prog W base spare held 115 v d ps) :
    ∃ (hc : Array Value) (time bits : Nat), v = .agg hc ∧ hc.size = 68 ∧ hc[65]? = some (.int .u32 (time : Int)) ∧ hc[66]? = some (.int .u32 (bits : Int)) ∧ time < 4294967296 ∧ bits < 4294967296 := by
  obtain ⟨cs, rfl, hsz⟩ := okWide_struct Try.underlying115 hval
  have h68 : cs.size = 68 := hsz.trans (by kernel_rfl)
  obtain ⟨fuel, hf⟩ := hd
  obtain ⟨xs, n, _, _, hl, hlen, hfs⟩ := DataW.trod_struct Try.underlying115 hf
  have hlen6 : xs.length = 6 := hlen
  have g3 := hfs 3 _ rfl
  have g4 := hfs 4 _ rfl
  rw [List.getElem?_eq_getElem (by omega)] at g3 g4
  have e43 : Try.prog.cellsOf 43 = 1 := by kernel_rfl
  have g3' : DataW.trod enc Try.prog W base spare held n 43 ((cs.toList.drop 65).take (Try.prog.cellsOf 43)) = some xs[3] := g3
  have g4' : DataW.trod enc Try.prog W base spare held n 43 ((cs.toList.drop 66).take (Try.prog.cellsOf 43)) = some xs[4] := g4
  rw [e43] at g3' g4'
  obtain ⟨x, h1, _, h2⟩ := DataW.trod_int Try.underlying43 g3'
  obtain ⟨y, h3, _, h4⟩ := DataW.trod_int Try.underlying43 g4'
  obtain ⟨m, rfl, hm⟩ := n32_of_wf h2
  obtain ⟨k, rfl, hk⟩ := n32_of_wf h4
  exact ⟨cs, m, k, rfl, h68, by simpa using take_one h1, by simpa using take_one h3, hm, hk⟩
set_option maxRecDepth 100000 in
theorem open_params {H : Type} {enc : TypeId × Value → H} {W : World} {r : Reach} {b0 base : Nat} {spare : Nat → Bool} {held : Bool} {v : Value} {d : DataW H} {ps : List MemPlace}
    (hval : Value.okWide Try.prog W r b0 113 v) (hd : DataW.Trod enc Try.prog W base spare held 113 v d ps) :
    ∃ (c : Nat) (i s f x o : Int) (a : Option Addr) (n cp : Nat), v = prm c i s f x o a n cp ∧ c < 4294967296 ∧ -9223372036854775808 ≤ i ∧ i ≤ 9223372036854775807 := by
  obtain ⟨cs, rfl, hsz⟩ := okWide_struct Try.underlying113 hval
  have h7 : cs.size = 7 := hsz.trans (by kernel_rfl)
  obtain ⟨fuel, hf⟩ := hd
  obtain ⟨xs, n, _, _, hl, hlen, hfs⟩ := DataW.trod_struct Try.underlying113 hf
  have hlen7 : xs.length = 7 := hlen
  have e43 : Try.prog.cellsOf 43 = 1 := by kernel_rfl
  have e3 : Try.prog.cellsOf 3 = 1 := by kernel_rfl
  have e111 : Try.prog.cellsOf 111 = 1 := by kernel_rfl
  obtain ⟨cl⟩ := cs
  have hcl : cl.length = 7 := by simpa using h7
  match cl, hcl with
  | [c0, c1, c2, c3, c4, c5, c6], _ =>
    have g0 := hfs 0 _ rfl
    have g1 := hfs 1 _ rfl
    have g2 := hfs 2 _ rfl
    have g3 := hfs 3 _ rfl
    have g4 := hfs 4 _ rfl
    have g5 := hfs 5 _ rfl
    have g6 := hfs 6 _ rfl
    rw [List.getElem?_eq_getElem (by omega)] at g0 g1 g2 g3 g4 g5 g6
    simp only [e43, e3, e111, Value.cells] at g0 g1 g2 g3 g4 g5 g6
    have k0 : DataW.trod enc Try.prog W base spare held n 43 [c0] = some xs[0] := g0
    have k1 : DataW.trod enc Try.prog W base spare held n 3 [c1] = some xs[1] := g1
    have k2 : DataW.trod enc Try.prog W base spare held n 3 [c2] = some xs[2] := g2
    have k3 : DataW.trod enc Try.prog W base spare held n 3 [c3] = some xs[3] := g3
    have k4 : DataW.trod enc Try.prog W base spare held n 3 [c4] = some xs[4] := g4
    have k5 : DataW.trod enc Try.prog W base spare held n 3 [c5] = some xs[5] := g5
    have k6 : DataW.trod enc Try.prog W base spare held n 111 [c6] = some xs[6] := g6
    obtain ⟨z0, h0, _, w0⟩ := DataW.trod_int Try.underlying43 k0
    obtain ⟨z1, h1, _, w1⟩ := DataW.trod_int Try.underlying3 k1
    obtain ⟨z2, h2, _, _⟩ := DataW.trod_int Try.underlying3 k2
    obtain ⟨z3, h3, _, _⟩ := DataW.trod_int Try.underlying3 k3
    obtain ⟨z4, h4, _, _⟩ := DataW.trod_int Try.underlying3 k4
    obtain ⟨z5, h5, _, _⟩ := DataW.trod_int Try.underlying3 k5
    obtain ⟨p, m, q, h6⟩ := Go.Joins.slice_form Try.underlying111 k6
    simp only [List.cons.injEq, and_true] at h0 h1 h2 h3 h4 h5 h6
    subst h0 h1 h2 h3 h4 h5 h6
    obtain ⟨c, rfl, hc⟩ := n32_of_wf w0
    exact ⟨c, z1, z2, z3, z4, z5, p, m, q, rfl, hc, (i64_of_wf w1).1, (i64_of_wf w1).2⟩
end Go.Proofs.Ytkgjgdeaclefiaa
