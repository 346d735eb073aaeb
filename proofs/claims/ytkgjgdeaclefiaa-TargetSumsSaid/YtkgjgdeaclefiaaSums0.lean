/-
  Words read: []uint32.
-/
import Derived.Test.YtkgjgdeaclefiaaTot
import Derived.Test.YtkgjgdeaclefiaaWc
namespace Go.Proofs.Ytkgjgdeaclefiaa
open Go Go.Proofs Go.ChangeShapes Go.WideShapes Go.ChangeAt Go.RowKit Go.Flo

def w32 (l : List Nat) : List Value := l.map fun x => Value.int .u32 ((x : Nat) : Int)
theorem w32_length (l : List Nat) : (w32 l).length = l.length := by simp [w32]
theorem w32_append (l m : List Nat) : w32 (l ++ m) = w32 l ++ w32 m := by simp [w32]
theorem w32_one (l : List Nat) : ∀ u ∈ w32 l, u.oneCell' = true := by simp [w32, Value.oneCell']
theorem rd32_of {w : World} {v : Value} {l : List Nat} (h : RdC 1 w v l.length (w32 l)) : Rd32 w v l := by
  obtain ⟨h1, h2, a, c, h3, h4⟩ := h
  rcases Nat.eq_zero_or_pos l.length with h0 | h0
  · exact .inl ⟨List.eq_nil_of_length_eq_zero h0, a, c, by rw [h3, h0]⟩
  · obtain ⟨b, off, h5, h6, h7, h8⟩ := h4 h0
    refine .inr ⟨h0, b, off, c, by rw [h3, h5], h6, h7, fun j hj => h8 j _ ?_⟩
    rw [at32_get hj]
    simp [w32, hj]
theorem rd32_C {w : World} {v : Value} {l : List Nat} (h : Rd32 w v l) : RdC 1 w v l.length (w32 l) := by
  rcases h with ⟨rfl, a, c, h⟩ | ⟨h0, b, off, c, h, h6, h7, h8⟩
  · rw [h]; exact RdC.nil 1 w a c
  · refine ⟨by simp [w32], w32_one l, _, _, h, fun _ => ⟨b, off, rfl, h6, h7, fun j x hx => ?_⟩⟩
    have hj : j < l.length := by
      rcases Nat.lt_or_ge j l.length with hj | hj
      · exact hj
      · rw [List.getElem?_eq_none (by rw [w32_length]; exact hj)] at hx; cases hx
    rw [h8 j hj, at32_get hj]
    simpa [w32, hj] using hx
theorem u32_wf {x : Int} (h : (Lit.int .u32 x).wf = true) : 0 ≤ x ∧ x < 4294967296 := by
  simp [Lit.wf, IntKind.min, IntKind.max, IntKind.signed, IntKind.bits] at h
  omega
theorem words_of_wf : ∀ {ns : List Int}, (∀ x ∈ ns, (Lit.int .u32 x).wf = true) → ∃ l : List Nat, ns = l.map (fun x : Nat => ((x : Nat) : Int)) ∧ ∀ x ∈ l, x < 4294967296
  | [], _ => ⟨[], rfl, by simp⟩
  | x :: ns, h => by
    obtain ⟨l, hl, hw⟩ := words_of_wf (ns := ns) fun y hy => h y (by simp [hy])
    have hx := u32_wf (h x (by simp))
    refine ⟨x.toNat :: l, ?_, ?_⟩
    · rw [List.map_cons, ← hl]
      congr 1
      omega
    · intro y hy
      rcases List.mem_cons.1 hy with rfl | hy
      · omega
      · exact hw y hy
set_option maxRecDepth 100000 in
theorem open_words {H : Type} {enc : TypeId × Value → H} {W : World} {r : Reach} {b0 base : Nat} {spare : Nat → Bool} {held : Bool} {t : TypeId} {v : Value} {d : DataW H} {ps : List MemPlace} (ht : Try.prog.underlying t = some (.slice 43))
    (hval : Value.okWide Try.prog W r b0 t v) (hd : DataW.Trod enc Try.prog W base spare held t v d ps) : ∃ l : List Nat, (∀ x ∈ l, x < 4294967296) ∧ Rd32 W v l := by
  obtain ⟨a, n, c, rfl⟩ := okWide_slice ht hval
  obtain ⟨fuel, hf⟩ := hd
  have hf' : DataW.trod enc Try.prog W base spare held fuel t [.slice a n c] = some (d, ps) := hf
  rcases open_ints ht Try.underlying43 (by kernel_rfl) hf' with ⟨h1, _⟩ | ⟨a', len, cap, zs, h1, _, hlc, hcm, hzl, _, hc, hw⟩
  · cases h1
    exact ⟨[], by simp, .inl ⟨rfl, _, _, rfl⟩⟩
  · cases h1
    obtain ⟨l, hl, hwl⟩ := words_of_wf hw
    have hlen : l.length = zs.length := by rw [hl]; simp
    have hle : n ≤ zs.length := by rw [hzl]; split <;> omega
    have hcell : ∀ j, j < l.length → W.cell? (a'.add j) = some (.int .u32 (at32 l j)) := fun j hj => by
      rw [hc j (by omega), at32_get hj]
      congr 2
      rw [hl]
      simp [List.getD_eq_getElem?_getD, hj]
    rcases Nat.eq_zero_or_pos n with h0 | h0
    · subst h0
      exact ⟨[], by simp, .inl ⟨rfl, _, _, rfl⟩⟩
    · have h00 := hcell 0 (by omega)
      obtain ⟨b, off, sp⟩ := a'
      have hsp : sp = none := by
        unfold World.cell? Addr.add at h00
        simp only [if_true] at h00
        cases sp with
        | none => rfl
        | some x =>
          exfalso
          revert h00
          cases W.heap[b]? with
          | none => simp
          | some o => cases o <;> simp
      subst hsp
      have hb := World.block_lt_of_cell? W _ h00
      have htl : (l.take n).length = n := by rw [List.length_take]; omega
      refine ⟨l.take n, fun x hx => hwl x (List.mem_of_mem_take hx), .inr ⟨by omega, b, off, c, by rw [htl], ?_, by omega, fun j hj => ?_⟩⟩
      · simpa [Addr.add] using hb
      · have := hcell j (by omega)
        rw [Addr.add_lit] at this
        rw [this, at32_get (by omega), at32_get hj, List.getElem_take]
end Go.Proofs.Ytkgjgdeaclefiaa
