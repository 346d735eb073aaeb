import Derived.Test.YtkgjgdeaclefiaaFacts
import Derived.Test.YtkgjgdeaclefiaaLx
import Derived.WalkKit
import Derived.ProofKit
import Derived.OpenShut
import Derived.Laws.IdiomArrays

/-! From a walk to the row: what all laws of this seat share. -/
namespace Go.Proofs.Ytkgjgdeaclefiaa
open Go.ChangeShapes Go.WideShapes Go.ChangeAt Go.RowKit Go.Flo

theorem wd_of_wf {x : Int} (h : (Lit.int .u64 x).wf = true) : Wd x := by
  simp [Lit.wf, IntKind.min, IntKind.max, IntKind.signed, IntKind.bits] at h
  exact ⟨h.1, by omega⟩

set_option maxRecDepth 100000 in
theorem open_four {H : Type} {enc : TypeId × Value → H} {W : World} {r : Reach} {b0 base : Nat} {spare : Nat → Bool} {held : Bool} {t : TypeId} {v : Value} {d : DataW H} {ps : List MemPlace} (ht : Try.prog.underlying t = some (.array 4 30))
    (hsize : Try.prog.cellsOf t = 4) (hval : Value.okWide Try.prog W r b0 t v) (hd : DataW.Trod enc Try.prog W base spare held t v d ps) : ∃ n, n < top ∧ v = uV n := by
  unfold Value.okWide at hval
  rw [ht] at hval
  obtain ⟨cs, rfl, hsz, _⟩ := hval
  obtain ⟨fuel, hf⟩ := hd
  have hl : cs.size = 4 := hsz.trans hsize
  obtain ⟨c0, c1, c2, c3, rfl⟩ : ∃ c0 c1 c2 c3, cs = #[c0, c1, c2, c3] := by
    obtain ⟨l⟩ := cs
    match l, hl with
    | [a, b, c, d], _ => exact ⟨a, b, c, d, rfl⟩
  have hf' : DataW.trod enc Try.prog W base spare held fuel t [c0, c1, c2, c3] = some (d, ps) := hf
  obtain ⟨y0, y1, y2, y3, n, _, h0, h1, h2, h3⟩ := trod_array4 ht (by kernel_rfl) hf'
  obtain ⟨x0, e0, _, w0⟩ := DataW.trod_int Try.underlying30 h0
  obtain ⟨x1, e1, _, w1⟩ := DataW.trod_int Try.underlying30 h1
  obtain ⟨x2, e2, _, w2⟩ := DataW.trod_int Try.underlying30 h2
  obtain ⟨x3, e3, _, w3⟩ := DataW.trod_int Try.underlying30 h3
  cases e0; cases e1; cases e2; cases e3
  obtain ⟨m, hm⟩ := is4_made (wd_of_wf w0) (wd_of_wf w1) (wd_of_wf w2) (wd_of_wf w3)
  exact ⟨m, hm.lt, hm.uV⟩
end Go.Proofs.Ytkgjgdeaclefiaa

/-! From a walk to the row: arguments that are bytes, hashes, texts. -/
namespace Go.Proofs.Ytkgjgdeaclefiaa
open Go Go.Proofs Go.ChangeShapes Go.WideShapes Go.ChangeAt Go.RowKit Go.Flo

theorem u8_of_wf {x : Int} (h : (Lit.int .u8 x).wf = true) : 0 ≤ x ∧ x < 256 := by
  simp [Lit.wf, IntKind.min, IntKind.max, IntKind.signed, IntKind.bits] at h
  omega
theorem bytes_of_wf : ∀ {ns : List Int}, (∀ x ∈ ns, (Lit.int .u8 x).wf = true) → ∃ l : List UInt8, ns = l.map fun x => (x.toNat : Int)
  | [], _ => ⟨[], rfl⟩
  | x :: ns, h => by
    obtain ⟨l, hl⟩ := bytes_of_wf (ns := ns) fun y hy => h y (by simp [hy])
    have hx := u8_of_wf (h x (by simp))
    refine ⟨UInt8.ofNat x.toNat :: l, ?_⟩
    rw [List.map_cons, ← hl, UInt8.toNat_ofNat']
    congr 1
    omega
set_option maxRecDepth 100000 in
/-- An array of whole numbers, opened. -/
theorem open_row {H : Type} {enc : TypeId × Value → H} {W : World} {r : Reach} {b0 base : Nat} {spare : Nat → Bool} {held : Bool} {t e : TypeId} {k : IntKind} {n : Nat} {v : Value} {d : DataW H} {ps : List MemPlace} (ht : Try.prog.underlying t = some (.array n e))
    (he : Try.prog.underlying e = some (.int k)) (hce : Try.prog.cellsOf e = 1) (hsize : Try.prog.cellsOf t = n) (hval : Value.okWide Try.prog W r b0 t v) (hd : DataW.Trod enc Try.prog W base spare held t v d ps) :
    ∃ ns : List Int, ns.length = n ∧ v = .agg (ns.map (Value.int k)).toArray ∧ ∀ x ∈ ns, (Lit.int k x).wf = true := by
  unfold Value.okWide at hval
  rw [ht] at hval
  obtain ⟨cs, rfl, hsz, _⟩ := hval
  obtain ⟨fuel, hf⟩ := hd
  have hl : cs.size = n := hsz.trans hsize
  have hf' : DataW.trod enc Try.prog W base spare held fuel t cs.toList = some (d, ps) := hf
  obtain ⟨xs, m, _, _, _, hxl, hx⟩ := DataW.trod_array ht hf'
  have key : ∀ i (hi : i < cs.toList.length), ∃ x, cs.toList[i] = Value.int k x ∧ (Lit.int k x).wf = true := fun i hi => by
    have hin : i < n := by simpa [hl] using hi
    have h1 := hx i hin
    rw [hce, Nat.mul_one] at h1
    have h2 : (cs.toList.drop i).take 1 = [cs.toList[i]] := by rw [List.drop_eq_getElem_cons hi, List.take_succ_cons, List.take_zero]
    rw [h2, List.getElem?_eq_getElem (by omega)] at h1
    obtain ⟨x, e0, _, w0⟩ := DataW.trod_int he h1
    simp only [List.cons.injEq, and_true] at e0
    exact ⟨x, e0, w0⟩
  have all : ∀ (l : List Value), (∀ i (hi : i < l.length), ∃ x, l[i] = Value.int k x ∧ (Lit.int k x).wf = true) → ∃ ns : List Int, l = ns.map (Value.int k) ∧ ∀ x ∈ ns, (Lit.int k x).wf = true := by
    intro l
    induction l with
    | nil => intro _; exact ⟨[], rfl, by simp⟩
    | cons c l ih =>
      intro h
      obtain ⟨x, hx, hw⟩ := h 0 (by simp)
      obtain ⟨ns, h1, h2⟩ := ih fun i hi => by
        have := h (i + 1) (by simpa using hi)
        simpa using this
      refine ⟨x :: ns, by rw [List.map_cons, ← h1]; congr 1, fun y hy => ?_⟩
      rcases List.mem_cons.1 hy with rfl | hy
      · exact hw
      · exact h2 y hy
  obtain ⟨ns, h1, h2⟩ := all cs.toList key
  refine ⟨ns, ?_, ?_, h2⟩
  · have := congrArg List.length h1
    simp at this
    omega
  · rw [← h1]
set_option maxRecDepth 100000 in
theorem open_hash {H : Type} {enc : TypeId × Value → H} {W : World} {r : Reach} {b0 base : Nat} {spare : Nat → Bool} {held : Bool} {t : TypeId} {v : Value} {d : DataW H} {ps : List MemPlace} (ht : Try.prog.underlying t = some (.array 32 5))
    (hsize : Try.prog.cellsOf t = 32) (hval : Value.okWide Try.prog W r b0 t v) (hd : DataW.Trod enc Try.prog W base spare held t v d ps) : ∃ l : List UInt8, l.length = 32 ∧ v = .agg (bA l) := by
  obtain ⟨ns, h1, h2, h3⟩ := open_row ht Try.underlying5 (by kernel_rfl) hsize hval hd
  obtain ⟨l, rfl⟩ := bytes_of_wf h3
  refine ⟨l, by simpa using h1, ?_⟩
  rw [h2]
  unfold bA
  rw [List.map_map]
  rfl
set_option maxRecDepth 100000 in
theorem open_bytes {H : Type} {enc : TypeId × Value → H} {W : World} {r : Reach} {b0 base : Nat} {spare : Nat → Bool} {held : Bool} {t : TypeId} {v : Value} {d : DataW H} {ps : List MemPlace} (ht : Try.prog.underlying t = some (.slice 5))
    (hval : Value.okWide Try.prog W r b0 t v) (hd : DataW.Trod enc Try.prog W base spare held t v d ps) : ∃ l : List UInt8, Rd8 W v l := by
  obtain ⟨a, n, c, rfl⟩ := okWide_slice ht hval
  obtain ⟨fuel, hf⟩ := hd
  have hf' : DataW.trod enc Try.prog W base spare held fuel t [.slice a n c] = some (d, ps) := hf
  rcases open_ints ht Try.underlying5 (by kernel_rfl) hf' with ⟨h1, _⟩ | ⟨a', len, cap, zs, h1, _, hlc, hcm, hzl, _, hc, hw⟩
  · cases h1
    exact ⟨[], .inl ⟨rfl, _, _, rfl⟩⟩
  · cases h1
    obtain ⟨l, hl⟩ := bytes_of_wf hw
    have hlen : l.length = zs.length := by rw [hl]; simp
    have hle : n ≤ zs.length := by rw [hzl]; split <;> omega
    have hcell : ∀ j, j < l.length → W.cell? (a'.add j) = some (.int .u8 (at8 l j)) := fun j hj => by
      rw [hc j (by omega), at8_get hj]
      congr 2
      rw [hl]
      simp [List.getD_eq_getElem?_getD, hj]
    rcases Nat.eq_zero_or_pos n with h0 | h0
    · subst h0
      exact ⟨[], .inl ⟨rfl, _, _, rfl⟩⟩
    · have h00 := hcell 0 (by omega)
      obtain ⟨b, off, sp⟩ := a'
      have hsp : sp = none := by
        unfold World.cell? Addr.add at h00
        simp only [if_true] at h00
        cases sp with
        | none => rfl
        | some x =>
          exfalso
          revert h00
          cases W.heap[b]? with
          | none => simp
          | some o => cases o <;> simp
      subst hsp
      have hb := World.block_lt_of_cell? W _ h00
      have htl : (l.take n).length = n := by rw [List.length_take]; omega
      refine ⟨l.take n, .inr ⟨by omega, b, off, c, by rw [htl], ?_, by omega, fun j hj => ?_⟩⟩
      · simpa [Addr.add] using hb
      · have := hcell j (by omega)
        rw [Addr.add_lit] at this
        rw [this, at8_get (by omega), at8_get hj, List.getElem_take]
end Go.Proofs.Ytkgjgdeaclefiaa
