/-
  Slices that read as so many elements, each of so many cells. No program is named here.
-/
import Derived.Test.YtkgjgdeaclefiaaWz
namespace Go.Flo
open Go Go.RowKit
/-- The slice v reads as m elements of k cells each, which are xs. -/
structure RdC (k : Nat) (w : World) (v : Value) (m : Nat) (xs : List Value) : Prop where
  len : xs.length = m * k
  one : ∀ u ∈ xs, u.oneCell' = true
  ex : ∃ a c, v = .slice a m c ∧ (0 < m → ∃ b off, a = some ⟨b, off, none⟩ ∧ b < w.heap.size ∧ m ≤ c ∧ ∀ (j : Nat) (x : Value), xs[j]? = some x → w.cell? ⟨b, off + j, none⟩ = some x)
theorem RdC.below {k : Nat} {w w' : World} {v : Value} {m : Nat} {xs : List Value} (h : RdC k w v m xs) (hb : Below w.heap.size w w') : RdC k w' v m xs := by
  obtain ⟨h1, h2, a, c, h3, h4⟩ := h
  refine ⟨h1, h2, a, c, h3, fun h0 => ?_⟩
  obtain ⟨b, off, h5, h6, h7, h8⟩ := h4 h0
  exact ⟨b, off, h5, Nat.lt_of_lt_of_le h6 hb.size, h7, fun j x hx => (hb.cell (p := ⟨b, off + j, none⟩) h6).trans (h8 j x hx)⟩
theorem RdC.shape {k : Nat} {w : World} {v : Value} {m : Nat} {xs : List Value} (h : RdC k w v m xs) : ∃ a c, v = .slice a m c := by
  obtain ⟨h1, h2, a, c, h3, h4⟩ := h
  exact ⟨a, c, h3⟩
theorem RdC.cells {k : Nat} {w : World} {a : Option Addr} {m n c : Nat} {xs : List Value} (h : RdC k w (.slice a m c) n xs) (h0 : 0 < n) : m = n ∧ ∃ b off, a = some ⟨b, off, none⟩ ∧ b < w.heap.size ∧ m ≤ c ∧ ∀ (j : Nat) (x : Value), xs[j]? = some x → w.cell? ⟨b, off + j, none⟩ = some x := by
  obtain ⟨h1, h2, a', c', h3, h4⟩ := h
  cases h3
  obtain ⟨b, off, h5, h6, h7, h8⟩ := h4 h0
  exact ⟨rfl, b, off, h5, h6, h7, h8⟩
theorem RdC.nil (k : Nat) (w : World) (a : Option Addr) (c : Nat) : RdC k w (.slice a 0 c) 0 [] := ⟨by simp, by simp, a, c, rfl, fun h => absurd h (by omega)⟩
/-- An owned slice, read. -/
theorem Mem.rdOwnC {w0 w : World} {l : List It} (i : Nat) {v : Value} {e : TypeId} {k m : Nat} {xs : List Value} (h : Mem w0 w l) (hi : l[i]? = some (.s v e k m xs)) (h1 : ∀ u ∈ xs, u.oneCell' = true) : RdC k w v m xs := by
  obtain ⟨hl, ⟨h2, h3⟩ | ⟨g, cap, cur, h2, hb, hg, hc, hm, hs, ht⟩⟩ := h.items.get hi
  · subst h3
    exact ⟨hl, h1, _, _, h2, fun h => absurd h (by omega)⟩
  · refine ⟨hl, h1, _, _, h2, fun _ => ⟨g, 0, rfl, heap_lt hg, hc, fun j x hx => ?_⟩⟩
    rw [Nat.zero_add, cell_of_row w g j _ _ _ hg]
    have h4 : (cur.toList.take (m * k))[j]? = some x := by rw [ht]; exact hx
    rw [List.getElem?_take] at h4
    split at h4
    · simpa using h4
    · cases h4
theorem run_appendC {P : Program} (w : World) (base : Nat) (t ty e : TypeId) (i : TypeInfo) (z : Value) (k bytes : Nat) (ht : P.underlying t = some (.slice e)) (hi : P.info? e = some i) (hz : i.zero = some z) (hs : i.size = k) (hby : i.bytes = bytes) (hzs : z.cells.size = k) (hk : 0 < k)
    (v : Value) (n : Nat) (xs : List Value) (hown : w.ownsRow base e k v n xs) (vx : Value) (m : Nat) (ys : List Value) (hx : RdC k w vx m ys) (h63 : n + m ≤ maxLen) (hb : (n + m) * bytes ≤ 140737488355328) (hbase : base ≤ w.heap.size) :
    ∃ v' w', (Builtin.append_ #[t, t] ty #[v, vx]).run P w = .ok v' w' ∧ w'.ownsRow base e k v' (n + m) (xs ++ ys) ∧ w.grownBy w' v.ownBlock ∧ (∀ b, v'.ownBlock = some b → v.ownBlock = some b ∨ w.heap.size ≤ b) := by
  obtain ⟨h1, h2, a, c, rfl, h4⟩ := hx
  have go (ad : Addr) (hc : ∀ j u, ys[j]? = some u → w.cell? (ad.add j) = some u) : ∃ v' w', (Builtin.append_ #[t, t] ty #[v, .slice (some ad) m c]).run P w = .ok v' w' ∧ w'.ownsRow base e k v' (n + m) (xs ++ ys) ∧ w.grownBy w' v.ownBlock ∧ (∀ b, v'.ownBlock = some b → v.ownBlock = some b ∨ w.heap.size ≤ b) :=
    run_append_own2 (P := P) w base t ty e i z k bytes ht hi hz hs hby hzs hk v n xs hown ad m c ys h1 hc h2 h63 hb hbase
  rcases Nat.eq_zero_or_pos m with rfl | h0
  · have : ys = [] := List.eq_nil_of_length_eq_zero (by omega)
    subst this
    cases a with
    | none =>
      refine ⟨v, w, ?_, by simpa using hown, ⟨rfl, rfl, rfl, Nat.le_refl _, fun _ _ _ => rfl⟩, fun b hb => .inl hb⟩
      obtain ⟨_, ⟨h1, h2⟩ | ⟨g, cap, cur, h1, hb, hg, hc, hm, hs, hx⟩⟩ := hown
      · subst h1
        simp [Builtin.append_, run_underlying ht, sizeOf, typeInfo, hi, Builtin.lenOf, Builtin.firstCells]
      · subst h1
        simp [Builtin.append_, run_underlying ht, sizeOf, typeInfo, hi, Builtin.lenOf, Builtin.firstCells, hc, storeCells]
    | some ad => exact go ad (by simp)
  · obtain ⟨b, off, rfl, h6, h7, h8⟩ := h4 h0
    refine go ⟨b, off, none⟩ fun j u hu => ?_
    have e1 : (⟨b, off, none⟩ : Addr).add j = ⟨b, off + j, none⟩ := by
      cases j with
      | zero => simp [Addr.add]
      | succ j => simp [Addr.add]
    rw [e1]
    exact h8 j u hu
/-- append of a slice that is read from wherever. -/
theorem wl_appendC {P : Program} {w : World} {ops : Array Oper} {rest : List Oper} {o : Oper} {a : Act} {Q : Exit → Act → World → Prop} {w0 : World} {l : List It} (j : Nat) (M : Mem w0 w l) {v : Value} {e : TypeId} {k n : Nat} {xs : List Value} (hj : l[j]? = some (.s v e k n xs))
    (hgd : o.guard = none) (s x : Operand) (t : TypeId) (ho : o.op = .call { callee := .builtin .append, args := #[s, x], argTypes := #[t, t] })
    (i : TypeInfo) (z : Value) (bytes : Nat) (ht : P.underlying t = some (.slice e)) (hi : P.info? e = some i) (hz : i.zero = some z) (hs : i.size = k) (hby : i.bytes = bytes) (hzs : z.cells.size = k) (hk : 0 < k) (hsv : a.eval s = v)
    (vx : Value) (hxe : a.eval x = vx) (m : Nat) (ys : List Value) (hx : RdC k w vx m ys) (h63 : n + m ≤ maxLen) (hb : (n + m) * bytes ≤ 140737488355328)
    (h : ∀ v' w', Mem w0 w' (l.set j (.s v' e k (n + m) (xs ++ ys))) → wpList P ops Q rest (a.put o.dst v') w') : wpList P ops Q (o :: rest) a w := by
  obtain ⟨v', w', hr, h2, h3, h4⟩ := run_appendC (P := P) w w0.heap.size t o.type e i z k bytes ht hi hz hs hby hzs hk v n xs (M.items.get hj) vx m ys hx h63 hb M.size
  exact Lib.wpList_append_run w hgd s x t t ho _ _ hsv hxe v' w' hr (h v' w' (M.grown j hj h2 h3 h4))
/-- What stands in a block just made, read as a slice. -/
theorem RdC.made (k : Nat) (w : World) (xs : List Value) (t : TypeId) (m c : Nat) (hl : xs.length = m * k) (hc : m ≤ c) (h1 : ∀ u ∈ xs, u.oneCell' = true) : RdC k (w.alloc (.cells xs.toArray t)) (.slice (some ⟨w.heap.size, 0, none⟩) m c) m xs :=
  ⟨hl, h1, _, _, rfl, fun _ => ⟨w.heap.size, 0, rfl, by simp, hc, fun j x hx => by
    have := new_cells w xs t j x hx
    rw [addr_add0] at this
    rw [Nat.zero_add]
    exact this⟩⟩
/-- Eight cells of eight stored, one by one. -/
theorem Mem.put8r {w0 w : World} {l : List It} (i : Nat) {b : Nat} {y0 y1 y2 y3 y4 y5 y6 y7 : Value} {t : TypeId} (h : Mem w0 w l) (hi : l[i]? = some (.c b #[y0, y1, y2, y3, y4, y5, y6, y7] t)) (x0 x1 x2 x3 x4 x5 x6 x7 : Value) :
    Mem w0 (Flo.put8 w b x0 x1 x2 x3 x4 x5 x6 x7) (l.set i (.c b #[x0, x1, x2, x3, x4, x5, x6, x7] t)) := by
  have e0 : (#[y0, y1, y2, y3, y4, y5, y6, y7].setIfInBounds 0 x0) = #[x0, y1, y2, y3, y4, y5, y6, y7] := by simp
  have h0 := h.put i hi 0 x0
  rw [e0] at h0
  have g0 := set_get (y := .c b #[x0, y1, y2, y3, y4, y5, y6, y7] t) hi
  have e1 : (#[x0, y1, y2, y3, y4, y5, y6, y7].setIfInBounds 1 x1) = #[x0, x1, y2, y3, y4, y5, y6, y7] := by simp
  have h1 := h0.put i g0 1 x1
  rw [e1, List.set_set] at h1
  have g1 := set_get (y := .c b #[x0, x1, y2, y3, y4, y5, y6, y7] t) hi
  have e2 : (#[x0, x1, y2, y3, y4, y5, y6, y7].setIfInBounds 2 x2) = #[x0, x1, x2, y3, y4, y5, y6, y7] := by simp
  have h2 := h1.put i g1 2 x2
  rw [e2, List.set_set] at h2
  have g2 := set_get (y := .c b #[x0, x1, x2, y3, y4, y5, y6, y7] t) hi
  have e3 : (#[x0, x1, x2, y3, y4, y5, y6, y7].setIfInBounds 3 x3) = #[x0, x1, x2, x3, y4, y5, y6, y7] := by simp
  have h3 := h2.put i g2 3 x3
  rw [e3, List.set_set] at h3
  have g3 := set_get (y := .c b #[x0, x1, x2, x3, y4, y5, y6, y7] t) hi
  have e4 : (#[x0, x1, x2, x3, y4, y5, y6, y7].setIfInBounds 4 x4) = #[x0, x1, x2, x3, x4, y5, y6, y7] := by simp
  have h4 := h3.put i g3 4 x4
  rw [e4, List.set_set] at h4
  have g4 := set_get (y := .c b #[x0, x1, x2, x3, x4, y5, y6, y7] t) hi
  have e5 : (#[x0, x1, x2, x3, x4, y5, y6, y7].setIfInBounds 5 x5) = #[x0, x1, x2, x3, x4, x5, y6, y7] := by simp
  have h5 := h4.put i g4 5 x5
  rw [e5, List.set_set] at h5
  have g5 := set_get (y := .c b #[x0, x1, x2, x3, x4, x5, y6, y7] t) hi
  have e6 : (#[x0, x1, x2, x3, x4, x5, y6, y7].setIfInBounds 6 x6) = #[x0, x1, x2, x3, x4, x5, x6, y7] := by simp
  have h6 := h5.put i g5 6 x6
  rw [e6, List.set_set] at h6
  have g6 := set_get (y := .c b #[x0, x1, x2, x3, x4, x5, x6, y7] t) hi
  have e7 : (#[x0, x1, x2, x3, x4, x5, x6, y7].setIfInBounds 7 x7) = #[x0, x1, x2, x3, x4, x5, x6, x7] := by simp
  have h7 := h6.put i g6 7 x7
  rw [e7, List.set_set] at h7
  exact h7
end Go.Flo
namespace Go.Flo.N
open Go Go.RowKit Go.Flo
/-- The modes, where each call waits for all ahead. -/
def se (o : Oper) : Nat :=
  match o.op with
  | .call { callee := .value .., .. } => 5
  | _ => sd o
theorem wp_made5 {P : Program} {id : Nat} {Q : Exit → Act → World → Prop} {a : Act} {w : World} {l : List Oper} (hm : P.follows .mixedOrders = true) (hB : softB .any l (l.map se) = true)
    (h : wpSoft P w l.toArray (InExt (fun b => b < w.heap.size) w) (masks .any [] l) (Q .normal) l (l.map se) 0 a (.soft noMade)) : (Code.region id l.toArray true).wp P Q a w :=
  wp_region_soft (fun b => b < w.heap.size) _ hm hB (fun _ h => h) h
end Go.Flo.N
namespace Go.Flo
open Go Go.RowKit
/-- A whole row stored, as one operation. -/
theorem op_storeM {P : Program} {o : Oper} {a : Act} {w : World} {K : Act → World → Prop} {Q' : Exit → Act → World → Prop} (t : TypeId) (x y : Operand) (ho : o.op = .store t x y) {e : TypeId} {n : Nat} (ht : Rowed P t e n) {g : Nat} (hx : a.eval x = .pointer (some ⟨g, 0, none⟩)) {c : Array Value} (hy : a.eval y = .agg c)
    {cs : Array Value} {u : TypeId} {w0 : World} {l : List It} (i : Nat) (M : Mem w0 w l) (hi : l[i]? = some (.c g cs u)) (hc : c.size = n) (hn : cs.size = n) (h1 : c.all (·.oneCell') = true)
    (h : Mem w0 (w.setRow g c) (l.set i (.c g c u)) → K (a.put o.dst undef) (w.setRow g c)) : o.wp P a w K Q' := by
  have hr := run_storeVar_row (P := P) w g u t cs c (M.at i hi) (by rw [hc]; exact ht.size) (by rw [hn, hc]) h1
  unfold Oper.wp
  simp [execOp, ho, hx, hy, Instr.storeAt, Instr.sureAddr, hr, Result.andThen]
  exact h (M.row i hi c)
end Go.Flo
