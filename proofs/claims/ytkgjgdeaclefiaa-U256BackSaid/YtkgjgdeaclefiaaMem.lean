/-
  The memory of a call's own, kept as a list of items: whole blocks with what they hold, and slices that it owns. No program is named here.
-/
import Derived.Test.YtkgjgdeaclefiaaWhole
import Derived.Laws.AppendOwn
import Derived.Lib.OthersKept
namespace Go.Flo
open Go Go.RowKit

/-- c: a block and all its cells. s: an owned slice (append may go on in it) and what it holds. o: a block of whatever kind. -/
inductive It where
  | c (b : Nat) (cs : Array Value) (t : TypeId)
  | s (v : Value) (e : TypeId) (size n : Nat) (xs : List Value)
  | o (b : Nat) (x : Obj)

def It.blk : It → Option Nat
  | .c b _ _ => some b
  | .s v _ _ _ _ => v.ownBlock
  | .o b _ => some b
def It.holds (base : Nat) (w : World) : It → Prop
  | .c b cs t => base ≤ b ∧ w.heap[b]? = some (.cells cs t (0, 0))
  | .s v e size n xs => w.ownsRow base e size v n xs
  | .o b x => base ≤ b ∧ w.heap[b]? = some x
def Apart (x : It) : List It → Prop
  | [] => True
  | y :: l => (∀ b, x.blk = some b → y.blk ≠ some b) ∧ Apart x l
def Items (base : Nat) (w : World) : List It → Prop
  | [] => True
  | x :: l => x.holds base w ∧ Apart x l ∧ Items base w l

structure Mem (w0 w : World) (l : List It) : Prop where
  below : Below w0.heap.size w0 w
  items : Items w0.heap.size w l

theorem It.holds.lt {base : Nat} {w : World} : ∀ {x : It}, x.holds base w → ∀ {b : Nat}, x.blk = some b → base ≤ b ∧ b < w.heap.size
  | .c _ _ _, h, _, hb => by cases hb; exact ⟨h.1, heap_lt h.2⟩
  | .s _ _ _ _ _, h, b, hb => World.ownsRow.lt h b hb
  | .o _ _, h, _, hb => by cases hb; exact ⟨h.1, heap_lt h.2⟩
theorem It.holds.keep {base : Nat} {w w' : World} : ∀ {x : It}, x.holds base w → (∀ b, x.blk = some b → w'.heap[b]? = w.heap[b]?) → x.holds base w'
  | .c b _ _, h, hk => ⟨h.1, (hk b rfl).trans h.2⟩
  | .s v e size n xs, h, hk => by
    obtain ⟨hl, h0 | ⟨g, cap, cur, hv, hb, hg, rest⟩⟩ := h
    · exact ⟨hl, .inl h0⟩
    · subst hv
      exact ⟨hl, .inr ⟨g, cap, cur, rfl, hb, (hk g rfl).trans hg, rest⟩⟩
  | .o b _, h, hk => ⟨h.1, (hk b rfl).trans h.2⟩
theorem Items.mem {base : Nat} {w : World} : ∀ {l : List It}, Items base w l → ∀ x ∈ l, x.holds base w
  | [], _, x, hx => by cases hx
  | y :: l, h, x, hx => by
    rcases List.mem_cons.1 hx with rfl | hx
    · exact h.1
    · exact Items.mem h.2.2 x hx
theorem Items.keep {base : Nat} {w w' : World} : ∀ {l : List It}, Items base w l → (∀ x ∈ l, ∀ b, x.blk = some b → w'.heap[b]? = w.heap[b]?) → Items base w' l
  | [], _, _ => trivial
  | x :: l, h, hk => ⟨h.1.keep (hk x (by simp)), h.2.1, Items.keep h.2.2 fun y hy => hk y (by simp [hy])⟩
theorem Items.below {base : Nat} {w w' : World} {l : List It} (h : Items base w l) (hb : Below w.heap.size w w') : Items base w' l :=
  h.keep fun x hx b hxb => hb.block b ((h.mem x hx).lt hxb).2
theorem apart_mem {x : It} : ∀ {l : List It}, Apart x l ↔ ∀ y ∈ l, ∀ b, x.blk = some b → y.blk ≠ some b
  | [] => by simp [Apart]
  | y :: l => by simp [Apart, apart_mem (l := l)]
theorem Items.get {base : Nat} {w : World} {l : List It} (h : Items base w l) {i : Nat} {x : It} (hi : l[i]? = some x) : x.holds base w := h.mem x (List.mem_of_getElem? hi)
/-- Two items lie apart. -/
theorem Items.apart {base : Nat} {w : World} : ∀ {l : List It}, Items base w l → ∀ {i j : Nat} {x y : It}, l[i]? = some x → l[j]? = some y → i ≠ j → ∀ b, x.blk = some b → y.blk ≠ some b
  | [], _, i, j, x, y, hi, _, _, _, _ => by simp at hi
  | z :: l, h, 0, 0, x, y, _, _, hne, _, _ => (hne rfl).elim
  | z :: l, h, 0, j + 1, x, y, hi, hj, _, b, hb => by
    simp at hi; subst hi
    exact apart_mem.1 h.2.1 y (List.mem_of_getElem? (by simpa using hj)) b hb
  | z :: l, h, i + 1, 0, x, y, hi, hj, _, b, hb => by
    simp at hj; subst hj
    intro hy
    exact apart_mem.1 h.2.1 x (List.mem_of_getElem? (by simpa using hi)) b hy hb
  | z :: l, h, i + 1, j + 1, x, y, hi, hj, hne, b, hb => Items.apart h.2.2 (by simpa using hi) (by simpa using hj) (by omega) b hb
theorem items_of {base : Nat} {w : World} : ∀ {l : List It}, (∀ x ∈ l, x.holds base w) → (∀ (i j : Nat) (x y : It), l[i]? = some x → l[j]? = some y → i < j → ∀ b, x.blk = some b → y.blk ≠ some b) → Items base w l
  | [], _, _ => trivial
  | x :: l, h, ha => ⟨h x (by simp), apart_mem.2 fun y hy b hb => by
      obtain ⟨j, hj⟩ := List.mem_iff_getElem?.1 hy
      exact ha 0 (j + 1) x y (by simp) (by simpa using hj) (by omega) b hb,
    items_of (fun y hy => h y (by simp [hy])) fun i j y z hi hj hij => ha (i + 1) (j + 1) y z (by simpa using hi) (by simpa using hj) (by omega)⟩

theorem Mem.nil (w : World) : Mem w w [] := ⟨Below.refl _ _, trivial⟩
theorem Mem.size {w0 w : World} {l : List It} (h : Mem w0 w l) : w0.heap.size ≤ w.heap.size := h.below.size
theorem Mem.call {w0 w w' : World} {l : List It} (h : Mem w0 w l) (hb : Below w.heap.size w w') : Mem w0 w' l := ⟨below_step h.below hb, h.items.below hb⟩
theorem Mem.drew {w0 w : World} {l : List It} (h : Mem w0 w l) : Mem w0 w.drew l := h.call (Below.refl _ _).drew
/-- What a callee made comes in. -/
theorem Mem.got {w0 w w' : World} {l : List It} {x : It} (h : Mem w0 w l) (hb : Below w.heap.size w w') (hx : x.holds w.heap.size w') : Mem w0 w' (x :: l) := by
  have h' := h.call hb
  refine ⟨h'.below, ?_, apart_mem.2 fun y hy b hxb hyb => ?_, h'.items⟩
  · have hs := h.size
    match x, hx with
    | .c b cs t, hx => exact ⟨Nat.le_trans hs hx.1, hx.2⟩
    | .s v e size n xs, hx =>
      obtain ⟨hl, h0 | ⟨g, cap, cur, hv, hb, hg, rest⟩⟩ := hx
      · exact ⟨hl, .inl h0⟩
      · exact ⟨hl, .inr ⟨g, cap, cur, hv, Nat.le_trans hs hb, hg, rest⟩⟩
    | .o b x, hx => exact ⟨Nat.le_trans hs hx.1, hx.2⟩
  · have h1 := (hx.lt hxb).1
    have h2 := ((h.items.mem y hy).lt hyb).2
    omega
theorem Mem.alloc {w0 w : World} {l : List It} {cs : Array Value} {t : TypeId} (h : Mem w0 w l) : Mem w0 (w.alloc (.cells cs t)) (.c w.heap.size cs t :: l) :=
  h.got ((Below.refl _ _).alloc (Nat.le_refl _) _) ⟨Nat.le_refl _, heap_alloc_new _ _⟩

theorem mem_set {l : List It} {i : Nat} {x y : It} (h : y ∈ l.set i x) : y = x ∨ ∃ j, j ≠ i ∧ l[j]? = some y := by
  obtain ⟨j, hj⟩ := List.mem_iff_getElem?.1 h
  rw [List.getElem?_set] at hj
  by_cases hij : i = j
  · rw [if_pos hij] at hj
    split at hj
    · exact .inl (Option.some.inj hj).symm
    · cases hj
  · rw [if_neg hij] at hj; exact .inr ⟨j, Ne.symm hij, hj⟩
/-- One item is changed: what it now is, all others as they were. -/
theorem Mem.turn {w0 w w' : World} {l : List It} {i : Nat} {x x' : It} (h : Mem w0 w l) (hi : l[i]? = some x) (hb : Below w0.heap.size w0 w') (hx : x'.holds w0.heap.size w')
    (hk : ∀ b, b < w.heap.size → x.blk ≠ some b → w'.heap[b]? = w.heap[b]?) (hn : ∀ b, x'.blk = some b → x.blk = some b ∨ w.heap.size ≤ b) : Mem w0 w' (l.set i x') := by
  have key : ∀ j y, j ≠ i → l[j]? = some y → ∀ b, y.blk = some b → x.blk ≠ some b ∧ b < w.heap.size := fun j y hji hj b hyb =>
    ⟨h.items.apart hj hi hji b hyb, ((h.items.get hj).lt hyb).2⟩
  refine ⟨hb, items_of (fun y hy => ?_) (fun a c y z ha hc hac b hyb hzb => ?_)⟩
  · rcases mem_set hy with rfl | ⟨j, hji, hj⟩
    · exact hx
    · exact (h.items.get hj).keep fun b hyb => hk b (key j y hji hj b hyb).2 (key j y hji hj b hyb).1
  · rw [List.getElem?_set] at ha hc
    by_cases hia : i = a
    · subst hia
      rw [if_pos rfl] at ha
      split at ha
      · cases ha
        rw [if_neg (by omega)] at hc
        obtain ⟨k1, k2⟩ := key c z (by omega) hc b hzb
        rcases hn b hyb with h1 | h1
        · exact k1 h1
        · omega
      · cases ha
    · rw [if_neg hia] at ha
      by_cases hic : i = c
      · subst hic
        rw [if_pos rfl] at hc
        split at hc
        · cases hc
          obtain ⟨k1, k2⟩ := key a y (by omega) ha b hyb
          rcases hn b hzb with h1 | h1
          · exact k1 h1
          · omega
        · cases hc
      · rw [if_neg hic] at hc
        exact h.items.apart ha hc (by omega) b hyb hzb

theorem Mem.put {w0 w : World} {l : List It} (i : Nat) {b : Nat} {cs : Array Value} {t : TypeId} (h : Mem w0 w l) (hi : l[i]? = some (.c b cs t)) (j : Nat) (v : Value) :
    Mem w0 (w.setCell ⟨b, j, none⟩ v) (l.set i (.c b (cs.setIfInBounds j v) t)) := by
  have hx := h.items.get hi
  refine h.turn hi (h.below.setCell hx.1 _) ⟨hx.1, heap_setCell_same hx.2 v⟩ (fun c _ hc => heap_setCell_get w ⟨b, j, none⟩ v c (fun e => hc (by rw [It.blk, e]))) (fun c hc => .inl hc)
theorem Mem.row {w0 w : World} {l : List It} (i : Nat) {b : Nat} {cs : Array Value} {t : TypeId} (h : Mem w0 w l) (hi : l[i]? = some (.c b cs t)) (c : Array Value) :
    Mem w0 (w.setRow b c) (l.set i (.c b c t)) := by
  have hx := h.items.get hi
  refine h.turn hi ⟨h.below.os, h.below.tape, h.below.output, by simpa using h.size, fun k hk => ?_⟩ ⟨hx.1, setRow_heap w b cs c t _ hx.2⟩ (fun k _ hc => setRow_other w b k c (fun e => hc (by rw [It.blk, e]))) (fun k hc => .inl hc)
  have := hx.1
  exact (setRow_other w b k c (by omega)).trans (h.below.block k hk)
theorem Mem.alloc' {w0 w : World} {l : List It} {cs : Array Value} {t : TypeId} {b : Nat} (hb : w.heap.size = b) (h : Mem w0 w l) : Mem w0 (w.alloc (.cells cs t)) (.c b cs t :: l) := hb ▸ h.alloc
theorem Mem.put4 {w0 w : World} {l : List It} (i : Nat) {b : Nat} {y0 y1 y2 y3 : Value} {t : TypeId} (h : Mem w0 w l) (hi : l[i]? = some (.c b #[y0, y1, y2, y3] t)) (x0 x1 x2 x3 : Value) :
    Mem w0 (Flo.put4 w b x0 x1 x2 x3) (l.set i (.c b #[x0, x1, x2, x3] t)) := by
  have hx := h.items.get hi
  exact h.turn hi (Below.put4 h.below hx.1 _ _ _ _) ⟨hx.1, put4_same hx.2 _ _ _ _⟩ (fun c _ hc => put4_other w b x0 x1 x2 x3 c (fun e => hc (by rw [It.blk, e]))) (fun c hc => .inl hc)
/-- Items in another order, or fewer of them. -/
theorem Mem.pick {w0 w : World} {l : List It} (is : List Nat) (h : Mem w0 w l) (hd : is.Nodup) : Mem w0 w (is.filterMap (fun i => l[i]?)) := by
  refine ⟨h.below, ?_⟩
  induction is with
  | nil => exact trivial
  | cons a is ih =>
    have ha := List.nodup_cons.1 hd
    rw [List.filterMap_cons]
    cases hx : l[a]? with
    | none => exact ih ha.2
    | some x =>
      refine ⟨h.items.get hx, apart_mem.2 fun y hy b hxb hyb => ?_, ih ha.2⟩
      obtain ⟨j, hj, hjy⟩ := List.mem_filterMap.1 hy
      exact h.items.apart hx hjy (fun e => ha.1 (e ▸ hj)) b hxb hyb
/-- An owned slice was grown. -/
theorem Mem.grown {w0 w w' : World} {l : List It} (i : Nat) {v v' : Value} {e : TypeId} {size n n' : Nat} {xs xs' : List Value} (h : Mem w0 w l) (hi : l[i]? = some (.s v e size n xs))
    (ho : w'.ownsRow w0.heap.size e size v' n' xs') (hg : w.grownBy w' v.ownBlock) (hn : ∀ b, v'.ownBlock = some b → v.ownBlock = some b ∨ w.heap.size ≤ b) : Mem w0 w' (l.set i (.s v' e size n' xs')) := by
  have hx := h.items.get hi
  refine h.turn hi ?_ ho (fun b hb hc => hg.block b hb (fun e => hc (by rw [It.blk, e]))) hn
  exact Below.grown h.below hg h.size (fun k hk => (World.ownsRow.lt hx k hk).1)
/-- A block as an owned slice. -/
theorem Mem.owned {w0 w : World} {l : List It} (i : Nat) {b : Nat} {cs : Array Value} {e : TypeId} (n cap size : Nat) (h : Mem w0 w l) (hi : l[i]? = some (.c b cs e)) (hn : n ≤ cap) (hc : cap ≤ maxLen) (hs : cs.size = cap * size) :
    Mem w0 w (l.set i (.s (.slice (some ⟨b, 0, none⟩) n cap) e size n (cs.toList.take (n * size)))) := by
  have hx := h.items.get hi
  refine h.turn hi h.below ⟨?_, .inr ⟨b, cap, cs, rfl, hx.1, hx.2, hn, hc, hs, rfl⟩⟩ (fun _ _ _ => rfl) (fun c hc => .inl hc)
  rw [List.length_take, Array.length_toList, hs]
  exact Nat.min_eq_left (Nat.mul_le_mul_right _ hn)
/-- An owned slice that is not empty, as its block. -/
theorem Mem.opened {w0 w : World} {l : List It} (i : Nat) {v : Value} {e : TypeId} {size n : Nat} {xs : List Value} (h : Mem w0 w l) (hi : l[i]? = some (.s v e size n xs)) (hn : 0 < n) :
    ∃ g cap cur, v = .slice (some ⟨g, 0, none⟩) n cap ∧ n ≤ cap ∧ cap ≤ maxLen ∧ cur.size = cap * size ∧ cur.toList.take (n * size) = xs ∧ Mem w0 w (l.set i (.c g cur e)) := by
  obtain ⟨hl, ⟨_, h0⟩ | ⟨g, cap, cur, rfl, hb, hg, hc, hm, hs, ht⟩⟩ := h.items.get hi
  · omega
  · exact ⟨g, cap, cur, rfl, hc, hm, hs, ht, h.turn hi h.below ⟨hb, hg⟩ (fun _ _ _ => rfl) (fun c hc => .inl hc)⟩

theorem Mem.allocO {w0 w : World} {l : List It} {b : Nat} {x : Obj} (hb : w.heap.size = b) (h : Mem w0 w l) : Mem w0 (w.alloc x) (.o b x :: l) :=
  hb ▸ h.got ((Below.refl _ _).alloc (Nat.le_refl _) _) ⟨Nat.le_refl _, heap_alloc_new _ _⟩
theorem Mem.obj {w0 w : World} {l : List It} (i : Nat) {b : Nat} {x : Obj} (h : Mem w0 w l) (hi : l[i]? = some (.o b x)) : w.heap[b]? = some x := (h.items.get hi).2
/-- A string's iterator goes on. -/
theorem Mem.iter {w0 w : World} {l : List It} (i : Nat) {b : Nat} {s : ByteArray} {p : Nat} (h : Mem w0 w l) (hi : l[i]? = some (.o b (.stringIter s p))) (p' : Nat) : Mem w0 (w.iterAt b s p') (l.set i (.o b (.stringIter s p'))) := by
  have hx := h.items.get hi
  exact h.turn hi (Lib.below_iterAt h.below hx.1 s p') ⟨hx.1, Lib.iterAt_heap w b s p p' hx.2⟩ (fun c _ hc => Lib.iterAt_other w b c s p' (fun e => hc (by rw [It.blk, e]))) (fun c hc => .inl hc)

theorem Mem.shape {w0 w : World} {l : List It} (i : Nat) {v : Value} {e : TypeId} {size n : Nat} {xs : List Value} (h : Mem w0 w l) (hi : l[i]? = some (.s v e size n xs)) : ∃ a c, v = .slice a n c := by
  obtain ⟨_, ⟨h1, h2⟩ | ⟨g, cap, cur, h1, _⟩⟩ := h.items.get hi
  · subst h2; exact ⟨_, _, h1⟩
  · exact ⟨_, _, h1⟩
theorem Mem.allocS {w0 w : World} {l : List It} (h : Mem w0 w l) (e : TypeId) (size : Nat) : Mem w0 w (.s (.slice none 0 0) e size 0 [] :: l) :=
  h.got (Below.refl _ _) ⟨by simp, .inl ⟨rfl, rfl⟩⟩

/-! ### What a walk wants to know -/
def ApartFacts (b : Nat) : List It → Prop
  | [] => True
  | .c b' _ _ :: l => (b ≠ b' ∧ b' ≠ b) ∧ ApartFacts b l
  | .s _ _ _ _ _ :: l => ApartFacts b l
  | .o b' _ :: l => (b ≠ b' ∧ b' ≠ b) ∧ ApartFacts b l
def MemFacts (base : Nat) (w : World) : List It → Prop
  | [] => base ≤ w.heap.size
  | .c b cs _ :: l => b < w.heap.size ∧ b ≤ w.heap.size ∧ base ≤ b ∧ (∀ j, w.cell? ⟨b, j, none⟩ = cs[j]?) ∧ (∀ j, w.frozen? ⟨b, j, none⟩ = false) ∧ ApartFacts b l ∧ MemFacts base w l
  | .s _ _ _ _ _ :: l => MemFacts base w l
  | .o b _ :: l => b < w.heap.size ∧ b ≤ w.heap.size ∧ base ≤ b ∧ ApartFacts b l ∧ MemFacts base w l
theorem apartFacts {x : It} {b : Nat} (hb : x.blk = some b) : ∀ {l : List It}, Apart x l → ApartFacts b l
  | [], _ => trivial
  | .c b' _ _ :: l, h => ⟨⟨fun e => h.1 b hb (by rw [It.blk, e]), fun e => h.1 b hb (by rw [It.blk, e])⟩, apartFacts hb h.2⟩
  | .s _ _ _ _ _ :: l, h => (apartFacts (l := l) hb h.2 :)
  | .o b' _ :: l, h => ⟨⟨fun e => h.1 b hb (by rw [It.blk, e]), fun e => h.1 b hb (by rw [It.blk, e])⟩, apartFacts hb h.2⟩
theorem Items.facts {base : Nat} {w : World} (hs : base ≤ w.heap.size) : ∀ {l : List It}, Items base w l → MemFacts base w l
  | [], _ => hs
  | .c b cs t :: _, h => ⟨heap_lt h.1.2, Nat.le_of_lt (heap_lt h.1.2), h.1.1, fun j => cell_of_row w b j cs t _ h.1.2, fun j => frozen_of_row w b j cs t h.1.2, apartFacts rfl h.2.1, Items.facts hs h.2.2⟩
  | .s _ _ _ _ _ :: l, h => (Items.facts (l := l) hs h.2.2 :)
  | .o _ _ :: _, h => ⟨heap_lt h.1.2, Nat.le_of_lt (heap_lt h.1.2), h.1.1, apartFacts rfl h.2.1, Items.facts hs h.2.2⟩
theorem Mem.facts {w0 w : World} {l : List It} (h : Mem w0 w l) : MemFacts w0.heap.size w l := h.items.facts h.size
/-- The first block's place in the heap. -/
theorem Mem.at {w0 w : World} {l : List It} (i : Nat) {b : Nat} {cs : Array Value} {t : TypeId} (h : Mem w0 w l) (hi : l[i]? = some (.c b cs t)) : w.heap[b]? = some (.cells cs t (0, 0)) := (h.items.get hi).2

/-! ### append, and where it goes on -/
section
variable {P : Program} (w : World)
theorem run_append_own2 (base : Nat) (t ty e : TypeId) (i : TypeInfo) (z : Value) (size bytes : Nat) (ht : P.underlying t = some (.slice e)) (hi : P.info? e = some i) (hz : i.zero = some z)
    (hsize : i.size = size) (hby : i.bytes = bytes) (hzs : z.cells.size = size) (hsz : 0 < size)
    (v : Value) (n : Nat) (xs : List Value) (hown : w.ownsRow base e size v n xs)
    (a : Addr) (m c : Nat) (news : List Value) (hl : news.length = m * size) (hnews : ∀ j u, news[j]? = some u → w.cell? (a.add j) = some u) (h1 : ∀ u ∈ news, u.oneCell' = true)
    (h63 : n + m ≤ maxLen) (hbytes : (n + m) * bytes ≤ 140737488355328) (hbase : base ≤ w.heap.size) :
    ∃ v' w', (Builtin.append_ #[t, t] ty #[v, .slice (some a) m c]).run P w = .ok v' w' ∧ w'.ownsRow base e size v' (n + m) (xs ++ news) ∧ w.grownBy w' v.ownBlock ∧ (∀ b, v'.ownBlock = some b → v.ownBlock = some b ∨ w.heap.size ≤ b) := by
  obtain ⟨v1, w1, hr1, ho1, hg1, _⟩ := run_append_own (P := P) w base t ty e i z size bytes ht hi hz hsize hby hzs hsz v n xs hown a m c news hl hnews h1 h63 hbytes hbase
  refine ⟨v1, w1, hr1, ho1, hg1, ?_⟩
  rcases hown.2 with ⟨rfl, rfl⟩ | ⟨g, cap, cur, rfl, hbg, hg, hnc, hcm, hcs, htake⟩
  · -- nil: what is made lies behind all
    have hown' : w.ownsRow w.heap.size e size (.slice none 0 0) 0 xs := ⟨hown.1, .inl ⟨rfl, rfl⟩⟩
    obtain ⟨v2, w2, hr2, ho2, _, _⟩ := run_append_own (P := P) w w.heap.size t ty e i z size bytes ht hi hz hsize hby hzs hsz _ _ xs hown' a m c news hl hnews h1 h63 hbytes (Nat.le_refl _)
    rw [hr1] at hr2
    cases hr2
    exact fun b hb => .inr (ho2.lt b hb).1
  · by_cases hroom : n + m ≤ cap
    · subst hsize
      have hfit : n * i.size + news.length ≤ cur.size := by rw [hl, hcs, ← Nat.add_mul]; exact Nat.mul_le_mul_right _ hroom
      have hr := run_append_room (P := P) w t ty e i ht hi g n cap cur hg a m c news hl hnews h1 hroom hfit
      rw [hr1] at hr
      cases hr
      exact fun b hb => .inl hb
    · subst hsize
      have hsmall : n + m ≤ 9223372036854775807 := by simp only [maxLen] at h63; omega
      have holds : ∀ j u, xs[j]? = some u → w.cell? ((⟨g, 0, none⟩ : Addr).add j) = some u := hown.cells (g := g) rfl
      have hr := run_append_grow (P := P) w t ty e i z ht hi hz ⟨g, 0, none⟩ n cap xs hown.1 holds a m c news hl hnews (by omega) (by omega) (growslice_fits (by omega) (hby ▸ hbytes))
      rw [hr1] at hr
      cases hr
      intro b hb
      simp [Value.ownBlock] at hb
      exact .inr (by omega)

/-- append to an item of the list. -/
theorem wl_append {ops : Array Oper} {rest : List Oper} {o : Oper} {a : Act} {Q : Exit → Act → World → Prop} {w0 : World} {l : List It} (k : Nat) (M : Mem w0 w l) {v : Value} {e : TypeId} {size n : Nat} {xs : List Value} (hk : l[k]? = some (.s v e size n xs))
    (hgd : o.guard = none) (s x : Operand) (t : TypeId)
    (ho : o.op = .call { callee := .builtin .append, args := #[s, x], argTypes := #[t, t] })
    (i : TypeInfo) (z : Value) (bytes : Nat) (ht : P.underlying t = some (.slice e)) (hi : P.info? e = some i) (hz : i.zero = some z)
    (hsize : i.size = size) (hby : i.bytes = bytes) (hzs : z.cells.size = size) (hsz : 0 < size) (hs : a.eval s = v)
    (ad : Addr) (m c : Nat) (news : List Value) (hx : a.eval x = .slice (some ad) m c) (hl : news.length = m * size) (hnews : ∀ j u, news[j]? = some u → w.cell? (ad.add j) = some u) (h1 : ∀ u ∈ news, u.oneCell' = true)
    (h63 : n + m ≤ maxLen) (hbytes : (n + m) * bytes ≤ 140737488355328)
    (h : ∀ v' w', Mem w0 w' (l.set k (.s v' e size (n + m) (xs ++ news))) → wpList P ops Q rest (a.put o.dst v') w') : wpList P ops Q (o :: rest) a w :=
  wpList_plain hgd fun _ hK => by
    obtain ⟨v', w', hr, h2, h3, h4⟩ := run_append_own2 (P := P) w w0.heap.size t o.type e i z size bytes ht hi hz hsize hby hzs hsz v n xs (M.items.get hk) ad m c news hl hnews h1 h63 hbytes M.size
    unfold Oper.wp execOp
    simp only [ho, resolve, invoke, builtin, Sem.run_bind, Sem.run_pure, Result.andThen_ok, List.map_toArray, List.map_cons, List.map_nil, hs, hx, hr]
    exact hK _ _ (h v' w' (M.grown k hk h2 h3 h4))
end
end Go.Flo
