/-
  slices.Grow of nothing, slices.Concat of two texts of 32 bytes, hash.Pair.
-/
import Derived.Test.YtkgjgdeaclefiaaWc
import Derived.Test.YtkgjgdeaclefiaaShaI
namespace Go.Flo
open Go Go.RowKit
/-- append of so many noughts to nil: what is made goes onto the list. -/
theorem wl_appnil {P : Program} {w : World} {ops : Array Oper} {rest : List Oper} {o : Oper} {a : Act} {Q : Exit → Act → World → Prop} {w0 : World} {l : List It} (M : Mem w0 w l)
    (hgd : o.guard = none) (s x : Operand) (t tn : TypeId) (ho : o.op = .call { callee := .builtin .append, args := #[s, x], argTypes := #[t, tn] })
    (e : TypeId) (i : TypeInfo) (kn k : IntKind) (ht : P.underlying t = some (.slice e)) (htn : P.underlying tn = some (.int kn)) (hi : P.info? e = some i) (hz : i.zero = some (.int .u8 0)) (hs : i.size = 1) (hby : i.bytes = 1)
    (hsv : a.eval s = .slice none 0 0) (m : Nat) (mi : Int) (hx : a.eval x = .int k mi) (hm : mi = (m : Int)) (h0 : 0 < m) (h63 : m ≤ 1000000)
    (h : ∀ (cap : Nat) (cur : Array Value) w', m ≤ cap → cap ≤ maxLen → cur.size = cap → Mem w0 w' (.c w.heap.size cur e :: l) → wpList P ops Q rest (a.put o.dst (.slice (some ⟨w.heap.size, 0, none⟩) m cap)) w') : wpList P ops Q (o :: rest) a w := by
  subst hm
  have hr := Lib.run_append_nil_zeros (P := P) w t tn o.type e i (.int .u8 0) k kn ht htn hi hz m h0 (by omega) (by omega) (by rw [hby]; omega)
  have hge := grownCap_ge w m 0 e
  have hcm : grownCap w m 0 e ≤ maxLen := grownCap_le_maxLen w m 0 e (by unfold maxLen; omega)
  have M2 := Mem.alloc M.drew (cs := Builtin.zeroCells (Value.int .u8 0).cells m ++ Builtin.zeroCells (Value.int .u8 0).cells (grownCap w m 0 e - m)) (t := e)
  refine Lib.wpList_append_run w hgd s x t tn ho _ _ hsv hx _ _ hr (h _ _ _ hge hcm ?_ M2)
  have hcs : ((Value.int .u8 0).cells).size = 1 := rfl
  rw [Array.size_append, size_zeroCells, size_zeroCells, hcs]
  omega
end Go.Flo
namespace Go.Proofs.Ytkgjgdeaclefiaa
open Go Go.Proofs Go.RowKit Go.Flo

set_option maxRecDepth 100000 in
set_option maxHeartbeats 1000000 in
theorem grow_c (n : Nat) (h0 : 0 < n) (hn : n ≤ 1000000) (w0 : World) :
    Calls Try.prog 137 #[.slice none 0 0, .int .i64 (n : Int)] w0 fun e w' => ∃ v, e = .returned v ∧ Mem w0 w' [.s v 5 1 0 []] := by
  obtain ⟨i0, HI⟩ := info8
  have h1 : 0 < (n : Int) := by omega
  have h2 : (n : Int) ≤ 1000000 := by omega
  have M := Mem.nil w0; have F := Mem.facts M; simp only [MemFacts] at F; (try simp only [ApartFacts] at F)
  go_enter Try.func137, Try.ntmps137
  go_wp2_with (at_builtin; refine wl_appnil (w0 := w0) M rfl _ _ 42 3 rfl 5 i0 _ _ Try.underlying42 Try.underlying3 HI.out.1 HI.out.2.1 HI.out.2.2.1 HI.out.2.2.2 rfl n _ rfl (by omega) h0 hn ?_; intro cap cur w1 hc1 hc2 hc3 M2)
  have M3 := Mem.owned (w0 := w0) 0 0 cap 1 M2 rfl (Nat.zero_le _) hc2 (by rw [hc3, Nat.mul_one])
  simp only [List.set_cons_zero, Nat.zero_mul, List.take_zero] at M3
  clear M M2 F
  go_ret
  exact ⟨_, rfl, M3⟩
set_option maxRecDepth 100000 in
set_option maxHeartbeats 1000000 in
theorem concat_c (b : Nat) (v1 v2 : Value) (T : TypeId) (fr : Nat × Nat) (l1 l2 : List UInt8) (h1 : l1.length = 32) (h2 : l2.length = 32) (w0 : World) (hb : w0.heap[b]? = some (.cells #[v1, v2] T fr)) (R1 : Rd8 w0 v1 l1) (R2 : Rd8 w0 v2 l2) :
    Calls Try.prog 130 #[.slice (some ⟨b, 0, none⟩) 2 2] w0 fun e w' => ∃ v, e = .returned v ∧ Rd8 w' v (l1 ++ l2) ∧ Below w0.heap.size w0 w' := by
  obtain ⟨i0, HI⟩ := info8
  obtain ⟨a1, c1, rfl⟩ := R1.shape
  obtain ⟨a2, c2, rfl⟩ := R2.shape
  rw [h1] at R1 hb
  rw [h2] at R2 hb
  have C0 := fun (w : World) (hB : Below w0.heap.size w0 w) => (hB.cell (p := ⟨b, 0, none⟩) (heap_lt hb)).trans ((cell_of_row w0 b 0 _ _ _ hb).trans (show _ = some (Value.slice a1 32 c1) from rfl))
  have C1 := fun (w : World) (hB : Below w0.heap.size w0 w) => (hB.cell (p := ⟨b, 1, none⟩) (heap_lt hb)).trans ((cell_of_row w0 b 1 _ _ _ hb).trans (show _ = some (Value.slice a2 32 c2) from rfl))
  have hlt := heap_lt hb
  have c0 := C0 w0 (Below.refl _ _)
  have c1' := C1 w0 (Below.refl _ _)
  have HR1 := Lib.hid R1
  have HR2 := Lib.hid R2
  have H1 := Lib.hid h1
  have H2 := Lib.hid h2
  clear R1 R2 h1 h2 hb
  have M := Mem.nil w0; have F := Mem.facts M; simp only [MemFacts] at F; (try simp only [ApartFacts] at F)
  go_enter Try.func130, Try.ntmps130
  go_wp2
  refine wp_loop_rounds 3 ?_
  rw [rounds_succ]
  go_wp2
  rw [rounds_succ]
  go_wp2
  rw [rounds_succ]
  go_wp2_with (go_at_call 137; (refine (grow_c 64 (by decide) (by decide) _).mono ?_); rintro o w1 ⟨v, rfl, M2⟩; clear M F c0 c1'; (have M := M2); clear M2; have F := Mem.facts M; simp only [MemFacts] at F; (try simp only [ApartFacts] at F); (have c0 := C0 _ M.below); (have c1' := C1 _ M.below))
  refine wp_loop_rounds 3 ?_
  rw [rounds_succ]
  go_wp2_with (at_builtin; refine wl_append8 (w0 := w0) 0 M rfl rfl _ _ 42 rfl i0 Try.underlying42 HI.out.1 HI.out.2.1 HI.out.2.2.1 HI.out.2.2.2 rfl _ rfl l1 (HR1.out.below (Mem.below M)) (by have := H1.out; have := H2.out; omega) ?_; clear M F c0 c1'; intro v2 w2 M; simp only [List.set_cons_zero] at M; have F := Mem.facts M; simp only [MemFacts] at F; (try simp only [ApartFacts] at F); (have c0 := C0 _ M.below); (have c1' := C1 _ M.below))
  rw [rounds_succ]
  go_wp2_with (at_builtin; refine wl_append8 (w0 := w0) 0 M rfl rfl _ _ 42 rfl i0 Try.underlying42 HI.out.1 HI.out.2.1 HI.out.2.2.1 HI.out.2.2.2 rfl _ rfl l2 (HR2.out.below (Mem.below M)) (by have := H1.out; have := H2.out; omega) ?_; clear M F c0 c1'; intro v2 w2 M; simp only [List.set_cons_zero] at M; have F := Mem.facts M; simp only [MemFacts] at F; (try simp only [ApartFacts] at F); (have c0 := C0 _ M.below); (have c1' := C1 _ M.below))
  rw [rounds_succ]
  clear c0 c1' C0 C1
  simp only [Nat.zero_add, List.nil_append] at M
  rw [show l1.length + l2.length = (l1 ++ l2).length by rw [List.length_append], ← List.map_append] at M
  have HRd := Lib.hid (Mem.rdOwn 0 M rfl)
  have hbel := M.below
  go_wp2
  go_ret
  exact ⟨_, rfl, HRd.out, hbel⟩
end Go.Proofs.Ytkgjgdeaclefiaa
