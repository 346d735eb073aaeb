/-
  Whole arrays stored, with the memory's list going on. No program is named here.
-/
import Derived.Test.YtkgjgdeaclefiaaLx
import Derived.Laws.CopyOwn
namespace Go.Flo
open Go Go.RowKit
section
variable {P : Program} {ops : Array Oper} {rest : List Oper} {o : Oper} {a : Act} {w : World} {Q : Exit → Act → World → Prop}
theorem wl_isStore (t : TypeId) (x y : Operand) (_ho : o.op = .store t x y) (h : wpList P ops Q (o :: rest) a w) : wpList P ops Q (o :: rest) a w := h
theorem wl_isLoad (t : TypeId) (x : Operand) (_ho : o.op = .load t x) (h : wpList P ops Q (o :: rest) a w) : wpList P ops Q (o :: rest) a w := h
theorem wl_storeM (hgd : o.guard = none) (t : TypeId) (x y : Operand) (ho : o.op = .store t x y) {e : TypeId} {n : Nat} (ht : Rowed P t e n) {g : Nat} (hx : a.eval x = .pointer (some ⟨g, 0, none⟩)) {c : Array Value} (hy : a.eval y = .agg c) {cs : Array Value} {u : TypeId}
    {w0 : World} {l : List It} (i : Nat) (M : Mem w0 w l) (hi : l[i]? = some (.c g cs u)) (hc : c.size = n) (hn : cs.size = n) (h1 : c.all (·.oneCell') = true)
    (h : Mem w0 (w.setRow g c) (l.set i (.c g c u)) → wpList P ops Q rest (a.put o.dst undef) (w.setRow g c)) : wpList P ops Q (o :: rest) a w :=
  wl_store hgd t x y ho ht hx hy (M.at i hi) hc hn h1 (h (M.row i hi c))
/-- 'copy' into a block of the list. -/
theorem op_copyM {K : Act → World → Prop} {Q' : Exit → Act → World → Prop} (d s : Operand) (dT sT : TypeId)
    (ho : o.op = .call { callee := .builtin .copy, args := #[d, s], argTypes := #[dT, sT] }) {elem : TypeId} (hu : P.underlying dT = some (.slice elem)) (hsz : (P.info? elem).map (·.size) = some 1)
    {g off dLen dCap : Nat} {ad : Addr} {sLen sCap : Nat} (hd : a.eval d = .slice (some ⟨g, off, none⟩) dLen dCap) (hs : a.eval s = .slice (some ad) sLen sCap)
    {w0 : World} {l : List It} (i : Nat) {cur : Array Value} {t : TypeId} (M : Mem w0 w l) (hi : l[i]? = some (.c g cur t)) (cs : List Value) (hn : cs.length = Nat.min sLen dLen)
    (hsrc : ∀ j v, cs[j]? = some v → w.cell? (ad.add j) = some v) (hfit : off + cs.length ≤ cur.size) (h1 : ∀ v ∈ cs, v.oneCell' = true) (new : Array Value) (hnew : (cur.toList.take off ++ cs ++ cur.toList.drop (off + cs.length)).toArray = new)
    (h : Mem w0 (w.setRow g new) (l.set i (.c g new t)) → K (a.put o.dst (goInt cs.length)) (w.setRow g new)) : o.wp P a w K Q' := by
  have hrun := run_copy_row (P := P) w dT sT o.type elem g off dLen dCap ad sLen sCap cur t cs hu hsz (M.at i hi) hn hsrc hfit h1
  rw [hnew] at hrun
  unfold Oper.wp
  simp [execOp, ho, resolve, invoke, builtin, hd, hs, hrun, Result.andThen]
  exact h (M.row i hi new)
end
end Go.Flo
