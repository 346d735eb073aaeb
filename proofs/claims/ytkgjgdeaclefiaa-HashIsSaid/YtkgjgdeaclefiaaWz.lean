/-
  append of so many noughts ('append(s, make([]byte, n)...)'). No program is named here.
-/
import Derived.Test.YtkgjgdeaclefiaaWl
import Derived.Lib.AppendZeros
namespace Go.Flo
open Go Go.RowKit
theorem zeroCells_one (z : Value) (hz : z.cells.size = 1) (n : Nat) : Builtin.zeroCells z.cells n = (List.replicate n (z.cells[0]!)).toArray := by
  unfold Builtin.zeroCells
  rw [hz]
  apply Array.ext_getElem?
  intro j
  by_cases h : j < n
  · simp [h, Nat.mod_one]
  · simp [h]
theorem run_append_zeros {P : Program} (w : World) (base : Nat) (t tn ty e : TypeId) (i : TypeInfo) (k kn : IntKind) (ht : P.underlying t = some (.slice e)) (htn : P.underlying tn = some (.int kn)) (hi : P.info? e = some i) (hz : i.zero = some (.int .u8 0))
    (hs : i.size = 1) (hby : i.bytes = 1) (g n m : Nat) (xs : List Value) (hown : w.ownsRow base e 1 (.slice (some ⟨g, 0, none⟩) n n) n xs) (h63 : n + m ≤ 1000000) (hbase : base ≤ w.heap.size) :
    ∃ v' w', (Builtin.append_ #[t, tn] ty #[.slice (some ⟨g, 0, none⟩) n n, .int k m]).run P w = .ok v' w' ∧ w'.ownsRow base e 1 v' (n + m) (xs ++ List.replicate m (.int .u8 0)) ∧ w.grownBy w' (some g) ∧ (∀ b, v'.ownBlock = some b → b = g ∨ w.heap.size ≤ b) := by
  have hw : IntKind.i64.wrap (m : Int) = m := by rw [IntKind.wrap_i64]; omega
  have hw0 : IntKind.i64.wrap 0 = 0 := by rw [IntKind.wrap_i64]; omega
  have hneg : ¬ ((m : Int) < 0) := by omega
  have h48i : ¬ (281474976710656 < (m : Int) * 1) := by omega
  have hcs : ((Value.int .u8 0).cells).size = 1 := rfl
  have hz1 : (Value.int .u8 0).cells[0]! = .int .u8 0 := rfl
  by_cases h0 : m = 0
  · subst h0
    refine ⟨.slice (some ⟨g, 0, none⟩) n n, w, ?_, by simpa using hown, ⟨rfl, rfl, rfl, Nat.le_refl _, fun _ _ _ => rfl⟩, fun b hb => .inl (by cases hb; rfl)⟩
    simp [Builtin.append_, run_underlying ht, run_underlying htn, sizeOf, typeInfo, hi, hby, asInt, asIntOf, hw0, storeCells]
  · have hge := grownCap_ge w (n + m) n e
    have hcm : grownCap w (n + m) n e ≤ maxLen := grownCap_le_maxLen w (n + m) n e (by unfold maxLen; omega)
    have hlx : xs.length = n := by have := hown.1; omega
    have holds : ∀ j v, xs[j]? = some v → w.cell? ((⟨g, 0, none⟩ : Addr).add j) = some v := hown.cells (g := g) rfl
    refine ⟨.slice (some ⟨w.heap.size, 0, none⟩) (n + m) (grownCap w (n + m) n e), w.drew.alloc (.cells (xs.toArray ++ (List.replicate m (Value.int .u8 0)).toArray ++ (List.replicate (grownCap w (n + m) n e - (n + m)) (Value.int .u8 0)).toArray) e), ?_, ?_, ?_, ?_⟩
    · have hn : ¬ (n + m ≤ n) := by omega
      have h63' : ¬ (9223372036854775807 < ((n : Int) + (m : Int))) := by omega
      have h48' : ¬ (281474976710656 < Builtin.nextslicecap (n + m) n) := by
        have := growslice_fits (need := n + m) (old := n) (bytes := 1) (by omega) (by omega)
        omega
      have hfo := run_firstCells_some (P := P) w.drew 1 n ⟨g, 0, none⟩ n n xs (by omega) (by simpa using holds)
      simp [Builtin.append_, run_underlying ht, run_underlying htn, sizeOf, typeInfo, zeroValue, hi, hz, hs, hby, asInt, asIntOf, hw, hneg, h0, hn, h63', h48', Question.forced, hfo, newRow, grownCap, zeroCells_one _ hcs, hz1]
      intro hbig
      omega
    · refine ⟨by simp [hlx], .inr ⟨w.heap.size, _, _, rfl, hbase, heap_alloc_new w.drew _, hge, hcm, ?_, ?_⟩⟩
      · simp; omega
      · simp only [Array.toList_append, List.append_assoc, Nat.mul_one]
        rw [← List.append_assoc, List.take_left' (by simp [hlx])]
    · exact ⟨rfl, rfl, rfl, by simp, fun k hk _ => by rw [heap_alloc_get, if_neg (show k ≠ w.drew.heap.size from Nat.ne_of_lt hk)]; rfl⟩
    · intro b hb
      simp [Value.ownBlock] at hb
      exact .inr (by omega)
/-- .. to an item of the list. -/
theorem wl_appzeros {P : Program} {w : World} {ops : Array Oper} {rest : List Oper} {o : Oper} {a : Act} {Q : Exit → Act → World → Prop} {w0 : World} {l : List It} (j : Nat) (M : Mem w0 w l) {g n : Nat} {e : TypeId} {xs : List Value}
    (hk : l[j]? = some (.s (.slice (some ⟨g, 0, none⟩) n n) e 1 n xs)) (hgd : o.guard = none) (s x : Operand) (t tn : TypeId)
    (ho : o.op = .call { callee := .builtin .append, args := #[s, x], argTypes := #[t, tn] })
    (i : TypeInfo) (kn k : IntKind) (ht : P.underlying t = some (.slice e)) (htn : P.underlying tn = some (.int kn)) (hi : P.info? e = some i) (hz : i.zero = some (.int .u8 0)) (hs : i.size = 1) (hby : i.bytes = 1)
    (hsv : a.eval s = .slice (some ⟨g, 0, none⟩) n n) (m : Nat) (mi : Int) (hx : a.eval x = .int k mi) (hm : mi = (m : Int)) (h63 : n + m ≤ 1000000)
    (h : ∀ v' w', Mem w0 w' (l.set j (.s v' e 1 (n + m) (xs ++ List.replicate m (.int .u8 0)))) → wpList P ops Q rest (a.put o.dst v') w') : wpList P ops Q (o :: rest) a w := by
  subst hm
  obtain ⟨v', w', hr, h2, h3, h4⟩ := run_append_zeros (P := P) w w0.heap.size t tn o.type e i k kn ht htn hi hz hs hby g n m xs (M.items.get hk) h63 M.size
  exact Lib.wpList_append_run w hgd s x t tn ho _ _ hsv hx v' w' hr (h v' w' (M.grown j hk h2 h3 (fun b hb => (h4 b hb).elim (fun e => .inl (by rw [e]; rfl)) .inr)))
/-- Ten cells stored, one by one. -/
abbrev put10 (w : World) (b : Nat) (x0 x1 x2 x3 x4 x5 x6 x7 x8 x9 : Value) : World :=
  (((((((((w.setCell ⟨b, 0, none⟩ x0).setCell ⟨b, 1, none⟩ x1).setCell ⟨b, 2, none⟩ x2).setCell ⟨b, 3, none⟩ x3).setCell ⟨b, 4, none⟩ x4).setCell ⟨b, 5, none⟩ x5).setCell ⟨b, 6, none⟩ x6).setCell ⟨b, 7, none⟩ x7).setCell ⟨b, 8, none⟩ x8).setCell ⟨b, 9, none⟩ x9
theorem set_get {l : List It} {i : Nat} {x y : It} (h : l[i]? = some x) : (l.set i y)[i]? = some y := by
  have : i < l.length := (List.getElem?_eq_some_iff.1 h).1
  simp [this]
theorem Mem.put10 {w0 w : World} {l : List It} (i : Nat) {b : Nat} {y0 y1 y2 y3 y4 y5 y6 y7 y8 y9 : Value} {t : TypeId} (h : Mem w0 w l) (hi : l[i]? = some (.c b #[y0, y1, y2, y3, y4, y5, y6, y7, y8, y9] t)) (x0 x1 x2 x3 x4 x5 x6 x7 x8 x9 : Value) :
    Mem w0 (Flo.put10 w b x0 x1 x2 x3 x4 x5 x6 x7 x8 x9) (l.set i (.c b #[x0, x1, x2, x3, x4, x5, x6, x7, x8, x9] t)) := by
  have e0 : (#[y0, y1, y2, y3, y4, y5, y6, y7, y8, y9].setIfInBounds 0 x0) = #[x0, y1, y2, y3, y4, y5, y6, y7, y8, y9] := by simp
  have h0 := h.put i hi 0 x0
  rw [e0] at h0
  have g0 := set_get (y := .c b #[x0, y1, y2, y3, y4, y5, y6, y7, y8, y9] t) hi
  have e1 : (#[x0, y1, y2, y3, y4, y5, y6, y7, y8, y9].setIfInBounds 1 x1) = #[x0, x1, y2, y3, y4, y5, y6, y7, y8, y9] := by simp
  have h1 := h0.put i g0 1 x1
  rw [e1, List.set_set] at h1
  have g1 := set_get (y := .c b #[x0, x1, y2, y3, y4, y5, y6, y7, y8, y9] t) hi
  have e2 : (#[x0, x1, y2, y3, y4, y5, y6, y7, y8, y9].setIfInBounds 2 x2) = #[x0, x1, x2, y3, y4, y5, y6, y7, y8, y9] := by simp
  have h2 := h1.put i g1 2 x2
  rw [e2, List.set_set] at h2
  have g2 := set_get (y := .c b #[x0, x1, x2, y3, y4, y5, y6, y7, y8, y9] t) hi
  have e3 : (#[x0, x1, x2, y3, y4, y5, y6, y7, y8, y9].setIfInBounds 3 x3) = #[x0, x1, x2, x3, y4, y5, y6, y7, y8, y9] := by simp
  have h3 := h2.put i g2 3 x3
  rw [e3, List.set_set] at h3
  have g3 := set_get (y := .c b #[x0, x1, x2, x3, y4, y5, y6, y7, y8, y9] t) hi
  have e4 : (#[x0, x1, x2, x3, y4, y5, y6, y7, y8, y9].setIfInBounds 4 x4) = #[x0, x1, x2, x3, x4, y5, y6, y7, y8, y9] := by simp
  have h4 := h3.put i g3 4 x4
  rw [e4, List.set_set] at h4
  have g4 := set_get (y := .c b #[x0, x1, x2, x3, x4, y5, y6, y7, y8, y9] t) hi
  have e5 : (#[x0, x1, x2, x3, x4, y5, y6, y7, y8, y9].setIfInBounds 5 x5) = #[x0, x1, x2, x3, x4, x5, y6, y7, y8, y9] := by simp
  have h5 := h4.put i g4 5 x5
  rw [e5, List.set_set] at h5
  have g5 := set_get (y := .c b #[x0, x1, x2, x3, x4, x5, y6, y7, y8, y9] t) hi
  have e6 : (#[x0, x1, x2, x3, x4, x5, y6, y7, y8, y9].setIfInBounds 6 x6) = #[x0, x1, x2, x3, x4, x5, x6, y7, y8, y9] := by simp
  have h6 := h5.put i g5 6 x6
  rw [e6, List.set_set] at h6
  have g6 := set_get (y := .c b #[x0, x1, x2, x3, x4, x5, x6, y7, y8, y9] t) hi
  have e7 : (#[x0, x1, x2, x3, x4, x5, x6, y7, y8, y9].setIfInBounds 7 x7) = #[x0, x1, x2, x3, x4, x5, x6, x7, y8, y9] := by simp
  have h7 := h6.put i g6 7 x7
  rw [e7, List.set_set] at h7
  have g7 := set_get (y := .c b #[x0, x1, x2, x3, x4, x5, x6, x7, y8, y9] t) hi
  have e8 : (#[x0, x1, x2, x3, x4, x5, x6, x7, y8, y9].setIfInBounds 8 x8) = #[x0, x1, x2, x3, x4, x5, x6, x7, x8, y9] := by simp
  have h8 := h7.put i g7 8 x8
  rw [e8, List.set_set] at h8
  have g8 := set_get (y := .c b #[x0, x1, x2, x3, x4, x5, x6, x7, x8, y9] t) hi
  have e9 : (#[x0, x1, x2, x3, x4, x5, x6, x7, x8, y9].setIfInBounds 9 x9) = #[x0, x1, x2, x3, x4, x5, x6, x7, x8, x9] := by simp
  have h9 := h8.put i g8 9 x9
  rw [e9, List.set_set] at h9
  have g9 := set_get (y := .c b #[x0, x1, x2, x3, x4, x5, x6, x7, x8, x9] t) hi
  exact h9
theorem addr_add0 (b j : Nat) : (⟨b, 0, none⟩ : Addr).add j = ⟨b, j, none⟩ := by simp [Addr.add]; intro h; exact h.symm
theorem new_cells (w : World) (xs : List Value) (t : TypeId) : ∀ j u, xs[j]? = some u → (w.alloc (.cells xs.toArray t)).cell? ((⟨w.heap.size, 0, none⟩ : Addr).add j) = some u := fun j u h => by
  rw [addr_add0, cell_of_row _ _ _ _ _ _ (Go.heap_alloc_new w _)]
  simpa using h
/-- An owned slice of bytes, read. -/
theorem Mem.rdOwn {w0 w : World} {l : List It} (i : Nat) {v : Value} {e : TypeId} {q : List UInt8} (h : Mem w0 w l) (hi : l[i]? = some (.s v e 1 q.length (q.map fun x => Value.int .u8 (x.toNat : Int)))) : Rd8 w v q := by
  obtain ⟨_, ⟨h1, h2⟩ | ⟨g, cap, cur, h1, hb, hg, hc, hm, hs, ht⟩⟩ := h.items.get hi
  · have : q = [] := List.eq_nil_of_length_eq_zero h2
    subst this
    exact .inl ⟨rfl, _, _, h1⟩
  · subst h1
    by_cases h0 : q.length = 0
    · have : q = [] := List.eq_nil_of_length_eq_zero h0
      subst this
      exact .inl ⟨rfl, _, _, rfl⟩
    · refine .inr ⟨by omega, g, 0, cap, rfl, heap_lt hg, hc, fun j hj => ?_⟩
      rw [Nat.zero_add, cell_of_row w g j _ _ _ hg]
      have h2 : (cur.toList.take (q.length * 1))[j]? = some (.int .u8 (at8 q j)) := by
        rw [ht, at8_get hj]
        simp [hj]
      rw [List.getElem?_take] at h2
      split at h2
      · simpa using h2
      · cases h2
theorem run_append_src0 {P : Program} (w : World) (base : Nat) (t ty e : TypeId) (i : TypeInfo) (ht : P.underlying t = some (.slice e)) (hi : P.info? e = some i) (v : Value) (n c : Nat) (xs : List Value) (hown : w.ownsRow base e 1 v n xs) :
    (Builtin.append_ #[t, t] ty #[v, .slice none 0 c]).run P w = .ok v w := by
  obtain ⟨_, ⟨h1, h2⟩ | ⟨g, cap, cur, h1, hb, hg, hc, hm, hs, hx⟩⟩ := hown
  · subst h1
    simp [Builtin.append_, run_underlying ht, sizeOf, typeInfo, hi, Builtin.lenOf, Builtin.firstCells]
  · subst h1
    simp [Builtin.append_, run_underlying ht, sizeOf, typeInfo, hi, Builtin.lenOf, Builtin.firstCells, hc, storeCells]
/-- append of bytes that are read from wherever. -/
theorem run_append8 {P : Program} (w : World) (base : Nat) (t ty e : TypeId) (i : TypeInfo) (ht : P.underlying t = some (.slice e)) (hi : P.info? e = some i) (hz : i.zero = some (.int .u8 0)) (hs : i.size = 1) (hby : i.bytes = 1)
    (v : Value) (n : Nat) (xs : List Value) (hown : w.ownsRow base e 1 v n xs) (vx : Value) (q : List UInt8) (hx : Rd8 w vx q) (h63 : n + q.length ≤ 100000000) (hbase : base ≤ w.heap.size) :
    ∃ v' w', (Builtin.append_ #[t, t] ty #[v, vx]).run P w = .ok v' w' ∧ w'.ownsRow base e 1 v' (n + q.length) (xs ++ q.map fun x => Value.int .u8 (x.toNat : Int)) ∧ w.grownBy w' v.ownBlock ∧ (∀ b, v'.ownBlock = some b → v.ownBlock = some b ∨ w.heap.size ≤ b) := by
  have go (ad : Addr) (c : Nat) (hv : vx = .slice (some ad) q.length c) (hc : ∀ j u, (q.map fun x => Value.int .u8 (x.toNat : Int))[j]? = some u → w.cell? (ad.add j) = some u) : ∃ v' w', (Builtin.append_ #[t, t] ty #[v, vx]).run P w = .ok v' w' ∧ w'.ownsRow base e 1 v' (n + q.length) (xs ++ q.map fun x => Value.int .u8 (x.toNat : Int)) ∧ w.grownBy w' v.ownBlock ∧ (∀ b, v'.ownBlock = some b → v.ownBlock = some b ∨ w.heap.size ≤ b) := by
    obtain ⟨v', w', h1, h2, h3, h4⟩ := run_append_own2 (P := P) w base t ty e i (.int .u8 0) 1 1 ht hi hz hs hby rfl (by decide) v n xs hown ad q.length c (q.map fun x => Value.int .u8 (x.toNat : Int)) (by simp) hc (by simp [Value.oneCell']) (by unfold maxLen; omega) (by omega) hbase
    exact ⟨v', w', by rw [hv]; exact h1, h2, h3, h4⟩
  rcases hx with ⟨rfl, a, c, rfl⟩ | ⟨h0, b, off, c, rfl, hb, hc, hj⟩
  · cases a with
    | none => exact ⟨v, w, run_append_src0 w base t ty e i ht hi v n c xs hown, by simpa using hown, ⟨rfl, rfl, rfl, Nat.le_refl _, fun _ _ _ => rfl⟩, fun b hb => .inl hb⟩
    | some ad => exact go ad c rfl (by simp)
  · refine go ⟨b, off, none⟩ c rfl fun j u hu => ?_
    have hlt : j < q.length := by
      rcases Nat.lt_or_ge j q.length with h | h
      · exact h
      · rw [List.getElem?_eq_none (by simpa using h)] at hu; cases hu
    have e1 : (⟨b, off, none⟩ : Addr).add j = ⟨b, off + j, none⟩ := by
      cases j with
      | zero => simp [Addr.add]
      | succ j => simp [Addr.add]
    rw [e1, hj j hlt, at8_get hlt]
    simpa [hlt] using hu
theorem wl_append8 {P : Program} {w : World} {ops : Array Oper} {rest : List Oper} {o : Oper} {a : Act} {Q : Exit → Act → World → Prop} {w0 : World} {l : List It} (k : Nat) (M : Mem w0 w l) {v : Value} {e : TypeId} {n : Nat} {xs : List Value} (hk : l[k]? = some (.s v e 1 n xs))
    (hgd : o.guard = none) (s x : Operand) (t : TypeId) (ho : o.op = .call { callee := .builtin .append, args := #[s, x], argTypes := #[t, t] })
    (i : TypeInfo) (ht : P.underlying t = some (.slice e)) (hi : P.info? e = some i) (hz : i.zero = some (.int .u8 0)) (hs : i.size = 1) (hby : i.bytes = 1) (hsv : a.eval s = v)
    (vx : Value) (hxe : a.eval x = vx) (q : List UInt8) (hx : Rd8 w vx q) (h63 : n + q.length ≤ 100000000)
    (h : ∀ v' w', Mem w0 w' (l.set k (.s v' e 1 (n + q.length) (xs ++ q.map fun x => Value.int .u8 (x.toNat : Int)))) → wpList P ops Q rest (a.put o.dst v') w') : wpList P ops Q (o :: rest) a w := by
  obtain ⟨v', w', hr, h2, h3, h4⟩ := run_append8 (P := P) w w0.heap.size t o.type e i ht hi hz hs hby v n xs (M.items.get hk) vx q hx h63 M.size
  exact Lib.wpList_append_run w hgd s x t t ho _ _ hsv hxe v' w' hr (h v' w' (M.grown k hk h2 h3 h4))
/-- Eight cells of ten stored, one by one. -/
abbrev put8 (w : World) (b : Nat) (x0 x1 x2 x3 x4 x5 x6 x7 : Value) : World :=
  (((((((w.setCell ⟨b, 0, none⟩ x0).setCell ⟨b, 1, none⟩ x1).setCell ⟨b, 2, none⟩ x2).setCell ⟨b, 3, none⟩ x3).setCell ⟨b, 4, none⟩ x4).setCell ⟨b, 5, none⟩ x5).setCell ⟨b, 6, none⟩ x6).setCell ⟨b, 7, none⟩ x7
theorem Mem.put8 {w0 w : World} {l : List It} (i : Nat) {b : Nat} {y0 y1 y2 y3 y4 y5 y6 y7 y8 y9 : Value} {t : TypeId} (h : Mem w0 w l) (hi : l[i]? = some (.c b #[y0, y1, y2, y3, y4, y5, y6, y7, y8, y9] t)) (x0 x1 x2 x3 x4 x5 x6 x7 : Value) :
    Mem w0 (Flo.put8 w b x0 x1 x2 x3 x4 x5 x6 x7) (l.set i (.c b #[x0, x1, x2, x3, x4, x5, x6, x7, y8, y9] t)) := by
  have e0 : (#[y0, y1, y2, y3, y4, y5, y6, y7, y8, y9].setIfInBounds 0 x0) = #[x0, y1, y2, y3, y4, y5, y6, y7, y8, y9] := by simp
  have h0 := h.put i hi 0 x0
  rw [e0] at h0
  have g0 := set_get (y := .c b #[x0, y1, y2, y3, y4, y5, y6, y7, y8, y9] t) hi
  have e1 : (#[x0, y1, y2, y3, y4, y5, y6, y7, y8, y9].setIfInBounds 1 x1) = #[x0, x1, y2, y3, y4, y5, y6, y7, y8, y9] := by simp
  have h1 := h0.put i g0 1 x1
  rw [e1, List.set_set] at h1
  have g1 := set_get (y := .c b #[x0, x1, y2, y3, y4, y5, y6, y7, y8, y9] t) hi
  have e2 : (#[x0, x1, y2, y3, y4, y5, y6, y7, y8, y9].setIfInBounds 2 x2) = #[x0, x1, x2, y3, y4, y5, y6, y7, y8, y9] := by simp
  have h2 := h1.put i g1 2 x2
  rw [e2, List.set_set] at h2
  have g2 := set_get (y := .c b #[x0, x1, x2, y3, y4, y5, y6, y7, y8, y9] t) hi
  have e3 : (#[x0, x1, x2, y3, y4, y5, y6, y7, y8, y9].setIfInBounds 3 x3) = #[x0, x1, x2, x3, y4, y5, y6, y7, y8, y9] := by simp
  have h3 := h2.put i g2 3 x3
  rw [e3, List.set_set] at h3
  have g3 := set_get (y := .c b #[x0, x1, x2, x3, y4, y5, y6, y7, y8, y9] t) hi
  have e4 : (#[x0, x1, x2, x3, y4, y5, y6, y7, y8, y9].setIfInBounds 4 x4) = #[x0, x1, x2, x3, x4, y5, y6, y7, y8, y9] := by simp
  have h4 := h3.put i g3 4 x4
  rw [e4, List.set_set] at h4
  have g4 := set_get (y := .c b #[x0, x1, x2, x3, x4, y5, y6, y7, y8, y9] t) hi
  have e5 : (#[x0, x1, x2, x3, x4, y5, y6, y7, y8, y9].setIfInBounds 5 x5) = #[x0, x1, x2, x3, x4, x5, y6, y7, y8, y9] := by simp
  have h5 := h4.put i g4 5 x5
  rw [e5, List.set_set] at h5
  have g5 := set_get (y := .c b #[x0, x1, x2, x3, x4, x5, y6, y7, y8, y9] t) hi
  have e6 : (#[x0, x1, x2, x3, x4, x5, y6, y7, y8, y9].setIfInBounds 6 x6) = #[x0, x1, x2, x3, x4, x5, x6, y7, y8, y9] := by simp
  have h6 := h5.put i g5 6 x6
  rw [e6, List.set_set] at h6
  have g6 := set_get (y := .c b #[x0, x1, x2, x3, x4, x5, x6, y7, y8, y9] t) hi
  have e7 : (#[x0, x1, x2, x3, x4, x5, x6, y7, y8, y9].setIfInBounds 7 x7) = #[x0, x1, x2, x3, x4, x5, x6, x7, y8, y9] := by simp
  have h7 := h6.put i g6 7 x7
  rw [e7, List.set_set] at h7
  exact h7
/-- A part of a block, read. -/
theorem Mem.rdPart {w0 w : World} {l : List It} (i : Nat) {g : Nat} {cur : Array Value} {t : TypeId} {q : List UInt8} (h : Mem w0 w l) (hi : l[i]? = some (.c g cur t)) (ht : cur.toList.take q.length = q.map fun x => Value.int .u8 (x.toNat : Int)) (off n c : Nat) (hn : off + n ≤ q.length) (hc : n ≤ c) :
    Rd8 w (.slice (some ⟨g, off, none⟩) n c) ((q.drop off).take n) := by
  have hx := h.items.get hi
  have hlen : ((q.drop off).take n).length = n := by rw [List.length_take, List.length_drop]; omega
  rcases Nat.eq_zero_or_pos n with rfl | h0
  · exact .inl ⟨by simp, _, _, rfl⟩
  · refine .inr ⟨by omega, g, off, c, by rw [hlen], heap_lt hx.2, by omega, fun j hj => ?_⟩
    rw [hlen] at hj
    rw [cell_of_row w g (off + j) _ _ _ hx.2, at8_get (by omega)]
    have h2 : (cur.toList.take q.length)[off + j]? = some (.int .u8 (q[off + j].toNat : Int)) := by rw [ht]; simp [show off + j < q.length by omega]
    rw [List.getElem?_take] at h2
    split at h2
    · simpa using h2
    · cases h2
end Go.Flo
