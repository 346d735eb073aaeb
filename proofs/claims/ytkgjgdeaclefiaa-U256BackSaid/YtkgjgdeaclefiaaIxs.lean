/-
  An array of integers indexed. No program is named here.
-/
import Derived.Test.YtkgjgdeaclefiaaEqs
namespace Go.Flo
open Go
section
variable {P : Program} (w : World)
theorem run_index_at (t e : TypeId) (n : Nat) (cs : Array Value) (k kk : IntKind) (i : Nat) (v : Value) (h : P.underlying t = some (.array n e)) (he : P.underlying e = some (.int kk)) (hs : (Go.sizeOf e).run P w = .ok 1 w) (hi : i < n) (hc : cs[i]? = some v) :
    (Instr.index t (.agg cs) (.int k (i : Int))).run P w = .ok v w := by
  unfold Instr.index
  simp only [asIntOf, Sem.run_bind, Sem.run_pure, Result.andThen_ok, run_underlying h]
  rw [if_pos ⟨by omega, by omega⟩]
  simp only [Sem.run_bind, hs, Result.andThen_ok]
  rw [show ((i : Int).toNat * 1) = i by omega]
  exact part_one w (isAgg_int w he) hc
@[go_sem] theorem run_index_four0 (t e : TypeId) (a b c d : Value) (k : IntKind) (h : P.underlying t = some (.array 4 e)) (he : P.underlying e = some (.int .u64)) (hs : (Go.sizeOf e).run P w = .ok 1 w) :
    (Instr.index t (.agg #[a, b, c, d]) (.int k 0)).run P w = .ok a w := run_index_at w t e 4 _ k .u64 0 a h he hs (by decide) rfl
@[go_sem] theorem run_index_four1 (t e : TypeId) (a b c d : Value) (k : IntKind) (h : P.underlying t = some (.array 4 e)) (he : P.underlying e = some (.int .u64)) (hs : (Go.sizeOf e).run P w = .ok 1 w) :
    (Instr.index t (.agg #[a, b, c, d]) (.int k 1)).run P w = .ok b w := run_index_at w t e 4 _ k .u64 1 b h he hs (by decide) rfl
@[go_sem] theorem run_index_four2 (t e : TypeId) (a b c d : Value) (k : IntKind) (h : P.underlying t = some (.array 4 e)) (he : P.underlying e = some (.int .u64)) (hs : (Go.sizeOf e).run P w = .ok 1 w) :
    (Instr.index t (.agg #[a, b, c, d]) (.int k 2)).run P w = .ok c w := run_index_at w t e 4 _ k .u64 2 c h he hs (by decide) rfl
@[go_sem] theorem run_index_four3 (t e : TypeId) (a b c d : Value) (k : IntKind) (h : P.underlying t = some (.array 4 e)) (he : P.underlying e = some (.int .u64)) (hs : (Go.sizeOf e).run P w = .ok 1 w) :
    (Instr.index t (.agg #[a, b, c, d]) (.int k 3)).run P w = .ok d w := run_index_at w t e 4 _ k .u64 3 d h he hs (by decide) rfl
end
end Go.Flo
