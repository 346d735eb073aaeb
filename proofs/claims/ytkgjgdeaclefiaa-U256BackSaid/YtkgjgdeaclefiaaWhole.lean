/-
  Whole arrays, by value, as one opaque row of cells. No program is named here.
-/
import Derived.Test.YtkgjgdeaclefiaaMix2
namespace Go.Flo
open Go Go.RowKit
section
variable {P : Program} {ops : Array Oper} {rest : List Oper} {o : Oper} {a : Act} {w : World} {Q : Exit → Act → World → Prop}

/-- An array of n cells, as a type. -/
structure Rowed (P : Program) (t e : TypeId) (n : Nat) : Prop where
  under : P.underlying t = some (.array n e)
  size : (P.info? t).map (·.size) = some n

theorem wl_load (hgd : o.guard = none) (t : TypeId) (x : Operand) (ho : o.op = .load t x) {e : TypeId} {n : Nat} (ht : Rowed P t e n) {g : Nat} (hx : a.eval x = .pointer (some ⟨g, 0, none⟩)) {cs : Array Value} {u : TypeId} (hg : w.heap[g]? = some (.cells cs u (0, 0))) (hn : cs.size = n)
    (h : wpList P ops Q rest (a.put o.dst (.agg cs)) w) : wpList P ops Q (o :: rest) a w :=
  wpList_load_row hgd t x ho g hx u cs (0, 0) _ hg ht.under rfl (by rw [hn]; exact ht.size) h
theorem wl_run (hgd : o.guard = none) {v : Value} {w' : World} (hr : (execOp a.eval o).run P w = .ok (.value v) w') (h : wpList P ops Q rest (a.put o.dst v) w') : wpList P ops Q (o :: rest) a w :=
  wpList_plain hgd fun _ hK => by
    unfold Oper.wp
    rw [hr]
    exact hK _ _ h
theorem wl_skip (hgd : o.guard = none) {w' : World} (hr : (execOp a.eval o).run P w = .ok .skip w') (h : wpList P ops Q rest (a.put o.dst undef) w') : wpList P ops Q (o :: rest) a w :=
  wpList_plain hgd fun _ hK => by
    unfold Oper.wp
    rw [hr]
    exact hK _ _ h
theorem wl_store (hgd : o.guard = none) (t : TypeId) (x y : Operand) (ho : o.op = .store t x y) {e : TypeId} {n : Nat} (ht : Rowed P t e n) {g : Nat} (hx : a.eval x = .pointer (some ⟨g, 0, none⟩)) {c : Array Value} (hy : a.eval y = .agg c) {cs : Array Value} {u : TypeId} (hg : w.heap[g]? = some (.cells cs u (0, 0)))
    (hc : c.size = n) (hn : cs.size = n) (h1 : c.all (·.oneCell') = true) (h : wpList P ops Q rest (a.put o.dst undef) (w.setRow g c)) : wpList P ops Q (o :: rest) a w := by
  refine wl_skip hgd ?_ h
  unfold execOp
  simp only [ho, hx, hy, Instr.storeAt, Instr.sureAddr, Sem.run_bind, Sem.run_pure, Result.andThen_ok, run_storeVar_row w g u t cs c hg (by rw [hc]; exact ht.size) (by rw [hn, hc]) h1]
theorem wl_alloc (hgd : o.guard = none) (t : TypeId) (ho : o.op = .alloc t) {z : Array Value} (hz : (P.info? t).map (fun i => i.zero) = some (some (.agg z)))
    (h : wpList P ops Q rest (a.put o.dst (.pointer (some ⟨w.heap.size, 0, none⟩))) (w.alloc (.cells z t))) : wpList P ops Q (o :: rest) a w := by
  refine wl_run hgd ?_ h
  cases hq : P.info? t with
  | none => simp [hq] at hz
  | some i =>
    simp [hq] at hz
    unfold execOp
    simp [ho, Instr.alloc, zeroValue, typeInfo, hq, hz, newVar, newRow, Value.cells]
theorem wl_box (hgd : o.guard = none) (t : TypeId) (x : Operand) (ho : o.op = .box t x) {c : Array Value} (hx : a.eval x = .agg c)
    (h : wpList P ops Q rest (a.put o.dst (.pointer (some ⟨w.heap.size, 0, none⟩))) (w.alloc (.cells c t))) : wpList P ops Q (o :: rest) a w := by
  refine wl_run hgd ?_ h
  unfold execOp
  simp [ho, hx, Instr.box, newVar, newRow, Value.cells]

/-- A row of the list, given new cells. -/
theorem Locs.row {w : World} {b : Nat} {cs c : Array Value} {t : TypeId} {l : List (Nat × Array Value × TypeId)} (h : Locs w ((b, cs, t) :: l)) (hne : ∀ x ∈ l, x.1 ≠ b) : Locs (w.setRow b c) ((b, c, t) :: l) :=
  ⟨setRow_heap w b cs c t _ h.1, Locs.others h.2 fun x hx => by rw [setRow_other w b x.1 c (hne x hx)]⟩
theorem Locs.cell {w : World} {b j : Nat} {cs : Array Value} {t : TypeId} {v : Value} {l : List (Nat × Array Value × TypeId)} (h : Locs w ((b, cs, t) :: l)) (hne : ∀ x ∈ l, x.1 ≠ b) : Locs (w.setCell ⟨b, j, none⟩ v) ((b, cs.setIfInBounds j v, t) :: l) :=
  ⟨Flo.heap_setCell_same h.1 v, Locs.others h.2 fun x hx => heap_setCell_get _ _ _ _ (hne x hx)⟩
end
end Go.Flo
