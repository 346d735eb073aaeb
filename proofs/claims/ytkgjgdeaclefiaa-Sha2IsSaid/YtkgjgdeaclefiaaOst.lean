/-
  A state that comes in, opened.
-/
import Derived.Test.YtkgjgdeaclefiaaLft
import Derived.Test.YtkgjgdeaclefiaaShaE
import Derived.Deep.Strs
import Derived.Lib.SmallJoins
namespace Go.Proofs.Ytkgjgdeaclefiaa
open Go Go.Proofs Go.ChangeShapes Go.WideShapes Go.ChangeAt Go.RowKit Go.Flo

theorem row_of_trod {H : Type} {enc : TypeId × Value → H} {W : World} {base : Nat} {spare : Nat → Bool} {held : Bool} {t e : TypeId} {k : IntKind} {n fuel : Nat} {cs : List Value} {x : DataW H × List MemPlace} (ht : Try.prog.underlying t = some (.array n e))
    (he : Try.prog.underlying e = some (.int k)) (hce : Try.prog.cellsOf e = 1) (hl : cs.length = n) (hf : DataW.trod enc Try.prog W base spare held fuel t cs = some x) :
    ∃ ns : List Int, cs = ns.map (Value.int k) ∧ ∀ x ∈ ns, (Lit.int k x).wf = true := by
  obtain ⟨xs, m, _, _, _, hxl, hx⟩ := DataW.trod_array ht hf
  have key : ∀ i (hi : i < cs.length), ∃ x, cs[i] = Value.int k x ∧ (Lit.int k x).wf = true := fun i hi => by
    have h1 := hx i (by omega)
    rw [hce, Nat.mul_one] at h1
    have h2 : (cs.drop i).take 1 = [cs[i]] := by rw [List.drop_eq_getElem_cons hi, List.take_succ_cons, List.take_zero]
    rw [h2, List.getElem?_eq_getElem (by omega)] at h1
    obtain ⟨x, e0, _, w0⟩ := DataW.trod_int he h1
    simp only [List.cons.injEq, and_true] at e0
    exact ⟨x, e0, w0⟩
  have all : ∀ (l : List Value), (∀ i (hi : i < l.length), ∃ x, l[i] = Value.int k x ∧ (Lit.int k x).wf = true) → ∃ ns : List Int, l = ns.map (Value.int k) ∧ ∀ x ∈ ns, (Lit.int k x).wf = true := by
    intro l
    induction l with
    | nil => intro _; exact ⟨[], rfl, by simp⟩
    | cons c l ih =>
      intro h
      obtain ⟨x, hx, hw⟩ := h 0 (by simp)
      obtain ⟨ns, h1, h2⟩ := ih fun i hi => by
        have := h (i + 1) (by simpa using hi)
        simpa using this
      refine ⟨x :: ns, by rw [List.map_cons, ← h1]; congr 1, fun y hy => ?_⟩
      rcases List.mem_cons.1 hy with rfl | hy
      · exact hw
      · exact h2 y hy
  exact all cs key
set_option maxRecDepth 100000 in
theorem bytes_of_trod {H : Type} {enc : TypeId × Value → H} {W : World} {base : Nat} {spare : Nat → Bool} {held : Bool} {t : TypeId} {fuel n c : Nat} {a : Option Addr} {x : DataW H × List MemPlace} (ht : Try.prog.underlying t = some (.slice 5))
    (hf : DataW.trod enc Try.prog W base spare held fuel t [.slice a n c] = some x) : ∃ l : List UInt8, Rd8 W (.slice a n c) l := by
  obtain ⟨d, ps⟩ := x
  rcases open_ints ht Try.underlying5 (by kernel_rfl) hf with ⟨h1, _⟩ | ⟨a', len, cap, zs, h1, _, hlc, hcm, hzl, _, hc, hw⟩
  · cases h1
    exact ⟨[], .inl ⟨rfl, _, _, rfl⟩⟩
  · cases h1
    obtain ⟨l, hl⟩ := bytes_of_wf hw
    have hlen : l.length = zs.length := by rw [hl]; simp
    have hle : n ≤ zs.length := by rw [hzl]; split <;> omega
    have hcell : ∀ j, j < l.length → W.cell? (a'.add j) = some (.int .u8 (at8 l j)) := fun j hj => by
      rw [hc j (by omega), at8_get hj]
      congr 2
      rw [hl]
      simp [List.getD_eq_getElem?_getD, hj]
    rcases Nat.eq_zero_or_pos n with h0 | h0
    · subst h0
      exact ⟨[], .inl ⟨rfl, _, _, rfl⟩⟩
    · have h00 := hcell 0 (by omega)
      obtain ⟨b, off, sp⟩ := a'
      have hsp : sp = none := by
        unfold World.cell? Addr.add at h00
        simp only [if_true] at h00
        cases sp with
        | none => rfl
        | some x =>
          exfalso
          revert h00
          cases W.heap[b]? with
          | none => simp
          | some o => cases o <;> simp
      subst hsp
      have hb := World.block_lt_of_cell? W _ h00
      have htl : (l.take n).length = n := by rw [List.length_take]; omega
      refine ⟨l.take n, .inr ⟨by omega, b, off, c, by rw [htl], ?_, by omega, fun j hj => ?_⟩⟩
      · simpa [Addr.add] using hb
      · have := hcell j (by omega)
        rw [Addr.add_lit] at this
        rw [this, at8_get (by omega), at8_get hj, List.getElem_take]
theorem w32_of_wf : ∀ {ns : List Int}, (∀ x ∈ ns, (Lit.int .u32 x).wf = true) → ∃ l : List UInt32, ns = l.map fun x => (x.toNat : Int)
  | [], _ => ⟨[], rfl⟩
  | x :: ns, h => by
    obtain ⟨l, hl⟩ := w32_of_wf (ns := ns) fun y hy => h y (by simp [hy])
    have hx := h x (by simp)
    simp [Lit.wf, IntKind.min, IntKind.max, IntKind.signed, IntKind.bits] at hx
    refine ⟨UInt32.ofNat x.toNat :: l, ?_⟩
    rw [List.map_cons, ← hl, UInt32.toNat_ofNat_of_lt' (by show _ < 4294967296; omega)]
    congr 1
    omega
set_option maxRecDepth 100000 in
theorem open_state {H : Type} {enc : TypeId × Value → H} {W : World} {r : Reach} {b0 base : Nat} {spare : Nat → Bool} {held : Bool} {v : Value} {d : DataW H} {ps : List MemPlace}
    (hval : Value.okWide Try.prog W r b0 52 v) (hd : DataW.Trod enc Try.prog W base spare held 52 v d ps) :
    ∃ s : ShaS, ∃ a b c d e f g k u, v = st10 a b c d e f g k u s.n ∧ s.h = [a, b, c, d, e, f, g, k] ∧ Rd8 W u s.rest ∧ s.n < 18446744073709551616 := by
  obtain ⟨cs, rfl, hsz⟩ := okWide_struct Try.underlying52 hval
  have h10 : cs.size = 10 := hsz.trans (by kernel_rfl)
  obtain ⟨fuel, hf⟩ := hd
  obtain ⟨y0, y1, y2, n, _, _, f0, f1, f2⟩ := Go.Deep.trod_struct3 Try.underlying52 hf
  obtain ⟨cl⟩ := cs
  have hcl : cl.length = 10 := by simpa using h10
  match cl, hcl with
  | [c0, c1, c2, c3, c4, c5, c6, c7, c8, c9], _ =>
    have e44 : Try.prog.cellsOf 44 = 8 := by kernel_rfl
    have e42 : Try.prog.cellsOf 42 = 1 := by kernel_rfl
    have e30 : Try.prog.cellsOf 30 = 1 := by kernel_rfl
    simp only [e44, e42, e30, Value.cells] at f0 f1 f2
    have f0' : DataW.trod enc Try.prog W base spare held n 44 [c0, c1, c2, c3, c4, c5, c6, c7] = some y0 := f0
    have f1' : DataW.trod enc Try.prog W base spare held n 42 [c8] = some y1 := f1
    have f2' : DataW.trod enc Try.prog W base spare held n 30 [c9] = some y2 := f2
    obtain ⟨ns, h1, h2⟩ := row_of_trod Try.underlying44 Try.underlying43 (by kernel_rfl) rfl f0'
    obtain ⟨l, rfl⟩ := w32_of_wf h2
    obtain ⟨p, m, c, h3⟩ := Go.Joins.slice_form Try.underlying42 f1'
    simp only [List.cons.injEq, and_true] at h3
    subst h3
    obtain ⟨q, hq⟩ := bytes_of_trod Try.underlying42 f1'
    obtain ⟨z, h4, _, h5⟩ := DataW.trod_int Try.underlying30 f2'
    simp only [List.cons.injEq, and_true] at h4
    subst h4
    simp [Lit.wf, IntKind.min, IntKind.max, IntKind.signed, IntKind.bits] at h5
    obtain ⟨zn, rfl⟩ : ∃ zn : Nat, z = (zn : Int) := ⟨z.toNat, by omega⟩
    rw [List.map_map] at h1
    have hl : l.length = 8 := by have := congrArg List.length h1; simpa using this.symm
    obtain ⟨a, b, c', d', e, f, g, k, rfl⟩ := eight_of hl
    simp only [List.map_cons, List.map_nil, List.cons.injEq, and_true, Function.comp_apply] at h1
    obtain ⟨rfl, rfl, rfl, rfl, rfl, rfl, rfl, rfl⟩ := h1
    exact ⟨⟨[a, b, c', d', e, f, g, k], q, zn⟩, a, b, c', d', e, f, g, k, _, rfl, rfl, hq, by show zn < _; omega⟩
end Go.Proofs.Ytkgjgdeaclefiaa
