/-
  Bytes as cells; slices that are read. No program is named here.
-/
import Derived.Test.YtkgjgdeaclefiaaMem
import Derived.Lib.Hide
namespace Go.Flo
open Go Go.RowKit

/-- Bytes as cells. -/
@[irreducible] def bA (l : List UInt8) : Array Value := (l.map fun x => Value.int .u8 (x.toNat : Int)).toArray
@[irreducible] def at8 (l : List UInt8) (j : Nat) : Int := ((l[j]?.getD 0).toNat : Int)
theorem bA_size (l : List UInt8) : (bA l).size = l.length := by unfold bA; simp
theorem at8_get {l : List UInt8} {j : Nat} (h : j < l.length) : at8 l j = (l[j].toNat : Int) := by unfold at8; simp [h]
theorem at8_lo (l : List UInt8) (j : Nat) : 0 ≤ at8 l j := by unfold at8; omega
theorem at8_hi (l : List UInt8) (j : Nat) : at8 l j < 256 := by
  unfold at8
  have := (l[j]?.getD 0).toNat_lt
  omega
theorem bA_get {l : List UInt8} {j : Nat} (h : j < l.length) : (bA l)[j]? = some (.int .u8 (at8 l j)) := by rw [at8_get h]; unfold bA; simp [h]
theorem bA_none {l : List UInt8} {j : Nat} (h : l.length ≤ j) : (bA l)[j]? = none := by rw [Array.getElem?_eq_none]; rw [bA_size]; exact h
theorem bA_set (l : List UInt8) (j : Nat) (x : Int) (h0 : 0 ≤ x) (h1 : x < 256) : (bA l).setIfInBounds j (.int .u8 x) = bA (l.set j (UInt8.ofNat x.toNat)) := by
  apply Array.ext_getElem?
  intro i
  rw [Array.getElem?_setIfInBounds]
  by_cases hi : i < l.length
  · rw [bA_get (l := l.set j _) (by simpa using hi), at8_get (by simpa using hi)]
    by_cases hj : j = i
    · subst hj
      rw [if_pos rfl, if_pos (by rw [bA_size]; exact hi)]
      simp only [List.getElem_set_self]
      congr 2
      rw [UInt8.toNat_ofNat']
      omega
    · rw [if_neg hj, bA_get hi, at8_get hi, List.getElem_set_ne (fun e => hj e)]
  · rw [bA_none (l := l.set j _) (by simpa using Nat.le_of_not_lt hi)]
    by_cases hj : j = i
    · rw [if_pos hj, if_neg (by rw [bA_size]; omega)]
    · rw [if_neg hj, bA_none (by omega)]
theorem bA_one (l : List UInt8) : (bA l).all (·.oneCell') = true := by
  unfold bA
  rw [Array.all_eq_true]
  intro i hi
  simp [Value.oneCell']
theorem bA_inj {l k : List UInt8} (h : bA l = bA k) : l = k := by
  unfold bA at h
  have h := List.map_inj_right (f := fun x : UInt8 => Value.int .u8 (x.toNat : Int)) (fun x y e => by
    simp only [Value.int.injEq, true_and] at e
    exact UInt8.toNat_inj.1 (by omega)) |>.1 (by simpa using h)
  exact h
theorem bA_list (l : List UInt8) : (bA l).toList = l.map fun x => Value.int .u8 (x.toNat : Int) := by unfold bA; simp

/-- A row made of a function. -/
def tab {α : Type} (n : Nat) (f : Nat → α) : List α := (List.range n).map f
@[simp] theorem tab_length {α : Type} (n : Nat) (f : Nat → α) : (tab n f).length = n := by simp [tab]
theorem tab_get {α : Type} {n : Nat} {f : Nat → α} {i : Nat} (h : i < (tab n f).length) : (tab n f)[i] = f i := by simp [tab]
theorem tab_ext {α : Type} {n : Nat} {f : Nat → α} {l : List α} (hl : l.length = n) (h : ∀ i (hi : i < l.length), l[i] = f i) : l = tab n f := by
  apply List.ext_getElem
  · simp [hl]
  · intro i h1 h2; rw [h i h1, tab_get]
theorem tab_congr {α : Type} {n : Nat} {f g : Nat → α} (h : ∀ i, i < n → f i = g i) : tab n f = tab n g := by
  apply List.ext_getElem
  · simp
  · intro i h1 h2; rw [tab_get, tab_get, h i (by simpa using h1)]
theorem tab_set {α : Type} (n : Nat) (f : Nat → α) (j : Nat) (x : α) : (tab n f).set j x = tab n fun i => if i = j then x else f i := by
  apply List.ext_getElem
  · simp
  · intro i h1 h2
    rw [tab_get, List.getElem_set, tab_get]
    by_cases h : j = i
    · rw [if_pos h, if_pos h.symm]
    · rw [if_neg h, if_neg (fun e => h e.symm)]

theorem mem_bA {w0 w : World} {l : List It} {b i n : Nat} {f g : Nat → UInt8} {x : UInt8} {T : TypeId} (h : Mem w0 w (.c b (bA (tab n f)) T :: l)) (hx : ∀ j, j < n → (if j = i then x else f j) = g j) :
    Mem w0 (w.setCell ⟨b, i, none⟩ (.int .u8 (x.toNat : Int))) (.c b (bA (tab n g)) T :: l) := by
  have hlt := x.toNat_lt
  have := h.put 0 rfl i (.int .u8 (x.toNat : Int))
  have e : UInt8.ofNat x.toNat = x := by simp
  rw [bA_set _ _ _ (by omega) (by omega), Int.toNat_natCast, tab_set, e] at this
  rw [← tab_congr hx]
  exact this

/-- The slice v, in a block below n, reads as these bytes. -/
def Rd8At (n : Nat) (w : World) (v : Value) (l : List UInt8) : Prop :=
  (l = [] ∧ ∃ a cap, v = .slice a 0 cap) ∨ (0 < l.length ∧ ∃ b off cap, v = .slice (some ⟨b, off, none⟩) l.length cap ∧ b < n ∧ l.length ≤ cap ∧ ∀ j, j < l.length → w.cell? ⟨b, off + j, none⟩ = some (.int .u8 (at8 l j)))
/-- .. in whatever block. -/
def Rd8 (w : World) (v : Value) (l : List UInt8) : Prop := Rd8At w.heap.size w v l
theorem Rd8At.below {n : Nat} {w w' : World} {v : Value} {l : List UInt8} (h : Rd8At n w v l) (hb : Below n w w') : Rd8At n w' v l := by
  rcases h with h | ⟨h0, b, off, cap, hv, hlt, hc, hj⟩
  · exact .inl h
  · exact .inr ⟨h0, b, off, cap, hv, hlt, hc, fun j hjl => (hb.cell (p := ⟨b, off + j, none⟩) hlt).trans (hj j hjl)⟩
theorem Rd8At.mono {n m : Nat} {w : World} {v : Value} {l : List UInt8} (h : Rd8At n w v l) (hm : n ≤ m) : Rd8At m w v l := by
  rcases h with h | ⟨h0, b, off, cap, hv, hlt, hc, hj⟩
  · exact .inl h
  · exact .inr ⟨h0, b, off, cap, hv, Nat.lt_of_lt_of_le hlt hm, hc, hj⟩
theorem Rd8.below {w w' : World} {v : Value} {l : List UInt8} (h : Rd8 w v l) (hb : Below w.heap.size w w') : Rd8 w' v l := (Rd8At.below h hb).mono hb.size
theorem Rd8.shape {w : World} {v : Value} {l : List UInt8} (h : Rd8 w v l) : ∃ a c, v = .slice a l.length c := by
  rcases h with ⟨rfl, a, c, h⟩ | ⟨_, b, off, cap, h, _⟩
  · exact ⟨a, c, h⟩
  · exact ⟨_, _, h⟩
/-- Where a slice that is not empty lies. -/
theorem Rd8.cells {w : World} {a : Option Addr} {n c : Nat} {l : List UInt8} (h : Rd8 w (.slice a n c) l) (h0 : 0 < l.length) : ∃ b off, a = some ⟨b, off, none⟩ ∧ n = l.length ∧ b < w.heap.size ∧ l.length ≤ c ∧ ∀ j, j < l.length → w.cell? ⟨b, off + j, none⟩ = some (.int .u8 (at8 l j)) := by
  rcases h with ⟨rfl, _⟩ | ⟨_, b, off, cap, h, hb, hc, hj⟩
  · simp at h0
  · cases h; exact ⟨b, off, rfl, rfl, hb, hc, hj⟩
/-- A block of bytes, as a slice of it all. -/
theorem Mem.rd8 {w0 w : World} {l : List It} {b n : Nat} {q : List UInt8} {T : TypeId} (i : Nat) (h : Mem w0 w l) (hi : l[i]? = some (.c b (bA q) T)) (hq : q.length = n) (h0 : 0 < n) : Rd8 w (.slice (some ⟨b, 0, none⟩) n n) q := by
  subst hq
  have hx := h.items.get hi
  refine .inr ⟨h0, b, 0, q.length, rfl, heap_lt hx.2, Nat.le_refl _, fun j hj => ?_⟩
  rw [Nat.zero_add, cell_of_row w b j _ T _ hx.2, bA_get hj]
end Go.Flo
