/-
  A region that draws its order: blocks that are made, their pointers told outright. No program is named here.
-/
import Derived.Test.YtkgjgdeaclefiaaLx
namespace Go.Flo.N
open Go Go.RowKit Go.Flo
section
variable {P : Program} {ops : Array Oper} {S : Nat → Prop} {W : World} {mk : List Nat} {Q : Act → World → Prop} {a : Act} {fs : Made} {o : Oper} {r : List Oper} {md : Oper → Nat} {k : Nat}
theorem sx_mk (hm : md o = 3) (hw : Region.wanted o (yielded ops a.tmps) = true) {cs : Array Value} {t : TypeId} (h1 : ∀ w : World, (execOp a.eval o).run P w = .ok (.value (.pointer (some ⟨w.heap.size, 0, none⟩))) (w.alloc (.cells cs t (0, 0))))
    (h2 : ∀ b, W.heap.size ≤ b → Fresh W fs b → wpSoft P W ops (InExt S W) mk Q r (r.map md) (k + 1) (a.put o.dst (.pointer (some ⟨b, 0, none⟩))) (.soft (fs.put k (b, .cells cs t (0, 0))))) : wpSoft P W ops (InExt S W) mk Q (o :: r) ((o :: r).map md) k a (.soft fs) :=
  sx_alloc hm hw (f := fun b => .pointer (some ⟨b, 0, none⟩)) h1 h2
end
end Go.Flo.N
