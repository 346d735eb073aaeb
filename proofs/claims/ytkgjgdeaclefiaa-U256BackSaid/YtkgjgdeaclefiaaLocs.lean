/-
  The blocks of a call's own, kept in a row: each with what it holds. No program is named here.
-/
import Derived.Test.YtkgjgdeaclefiaaMix
import Derived.Laws.Rows
namespace Go.Flo
open Go Go.RowKit

/-- Blocks, each with its cells. -/
def Locs (w : World) : List (Nat × Array Value × TypeId) → Prop
  | [] => True
  | (b, cs, t) :: l => w.heap[b]? = some (.cells cs t (0, 0)) ∧ Locs w l
/-- .. as a walk wants it. -/
def LocFacts (w : World) : List (Nat × Array Value × TypeId) → Prop
  | [] => True
  | (b, cs, _) :: l => b < w.heap.size ∧ b ≤ w.heap.size ∧ (∀ j, w.cell? ⟨b, j, none⟩ = cs[j]?) ∧ (∀ j, w.frozen? ⟨b, j, none⟩ = false) ∧ LocFacts w l

theorem heap_lt {w : World} {b : Nat} {o : Obj} (h : w.heap[b]? = some o) : b < w.heap.size := by
  rcases Nat.lt_or_ge b w.heap.size with h' | h'
  · exact h'
  · simp [Array.getElem?_eq_none h'] at h

theorem Locs.facts {w : World} : ∀ {l : List (Nat × Array Value × TypeId)}, Locs w l → LocFacts w l
  | [], _ => trivial
  | (b, cs, t) :: _, h => ⟨heap_lt h.1, Nat.le_of_lt (heap_lt h.1), fun j => cell_of_row w b j cs t _ h.1, fun j => frozen_of_row w b j cs t h.1, Locs.facts h.2⟩
theorem Locs.nil (w : World) : Locs w [] := trivial
theorem Locs.below {w w' : World} : ∀ {l : List (Nat × Array Value × TypeId)}, Locs w l → Below w.heap.size w w' → Locs w' l
  | [], _, _ => trivial
  | (_, _, _) :: _, h, hb => ⟨(hb.block _ (heap_lt h.1)).trans h.1, Locs.below h.2 hb⟩
theorem Locs.drew {w : World} {l : List (Nat × Array Value × TypeId)} (h : Locs w l) : Locs w.drew l := h.below (Below.refl _ _).drew
theorem Locs.push {w : World} {l : List (Nat × Array Value × TypeId)} {cs : Array Value} {t : TypeId} (h : Locs w l) : Locs (w.alloc (.cells cs t)) ((w.heap.size, cs, t) :: l) :=
  ⟨by rw [heap_alloc_get, if_pos rfl], h.below ((Below.refl _ _).alloc (Nat.le_refl _) _)⟩
/-- A block that is in the row already is kept beside. -/
theorem Locs.cons {w : World} {l : List (Nat × Array Value × TypeId)} {b : Nat} {cs : Array Value} {t : TypeId} (h : w.heap[b]? = some (.cells cs t (0, 0))) (hl : Locs w l) : Locs w ((b, cs, t) :: l) := ⟨h, hl⟩

theorem wp_region_heldall {P : Program} {a : Act} {w : World} {id : Nat} {Q : Exit → Act → World → Prop} {l : List Oper} (hm : P.follows .mixedOrders = true) (hB : mixB .any l (l.map hd) = true)
    (h : wpMix P l.toArray (InExt (fun b => b < w.heap.size) w) (Q .normal) l (l.map hd) a w.drew) : (Code.region id l.toArray true).wp P Q a w :=
  wp_region_held (fun b => b < w.heap.size) hm hB h
end Go.Flo
