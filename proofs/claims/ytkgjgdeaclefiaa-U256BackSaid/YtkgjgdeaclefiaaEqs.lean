/-
  '==' on arrays: element by element. No program is named here.
-/
import Derived.WalkKit
namespace Go.Flo
open Go
section
variable {P : Program} (w : World)

theorem loop_all (b : Nat → Bool) (f : Nat → (Option Bool × Unit) → Sem (ForInStep (Option Bool × Unit))) : ∀ (k i : Nat), (∀ j, i ≤ j → j < i + k → ∀ s, (f j s).run P w = .ok (if b j = true then .yield (none, ()) else .done (some false, ())) w) →
    (forIn (List.range' i k) (none, ()) f).run P w = .ok (if (List.range' i k).all b = true then (none, ()) else (some false, ())) w
  | 0, i, _ => by simp
  | k + 1, i, h => by
    have ih := loop_all b f k (i + 1) (fun j h1 h2 => h j (by omega) (by omega))
    rw [List.range'_succ, List.forIn_cons, Sem.run_bind, h i (Nat.le_refl _) (by omega), Result.andThen_ok]
    cases hb : b i
    · simp [hb]
    · simp only [if_true, List.all_cons, hb, Bool.true_and]
      exact ih

theorem run_equalIn_array (d n s : Nat) (t e : TypeId) (xs ys : Array Value) (X Y : Nat → Value) (b : Nat → Bool) (ht : P.underlying t = some (.array n e)) (hs : (Go.sizeOf e).run P w = .ok s w)
    (hX : ∀ i, i < n → (part e xs (i * s)).run P w = .ok (X i) w) (hY : ∀ i, i < n → (part e ys (i * s)).run P w = .ok (Y i) w)
    (hb : ∀ i, i < n → (Op.equalIn d e (X i) (Y i)).run P w = .ok (b i) w) :
    (Op.equalIn (d + 1) t (.agg xs) (.agg ys)).run P w = .ok ((List.range n).all b) w := by
  unfold Op.equalIn
  simp only [Sem.run_bind, run_underlying ht, Result.andThen_ok, hs]
  simp
  rw [loop_all w b _ n 0 (fun j _ hj s' => by
    rw [Sem.run_bind, hX j (by omega), Result.andThen_ok, Sem.run_bind, hY j (by omega), Result.andThen_ok, Sem.run_bind, hb j (by omega), Result.andThen_ok]
    cases b j <;> rfl)]
  rw [List.range_eq_range', Result.andThen_ok]
  cases (List.range' 0 n).all b <;> rfl

theorem part_one {e : TypeId} {cs : Array Value} {i : Nat} {v : Value} (ha : (isAgg e).run P w = .ok false w) (h : cs[i]? = some v) : (part e cs i).run P w = .ok v w := by
  simp [part, ha, h]

theorem isAgg_int {e : TypeId} {k : IntKind} (he : P.underlying e = some (.int k)) : (isAgg e).run P w = .ok false w := by
  simp [isAgg, run_underlying he]

theorem all_range_eq : ∀ (xs ys : List Int), xs.length = ys.length → (List.range xs.length).all (fun i => xs.getD i 0 == ys.getD i 0) = (xs == ys)
  | [], [], _ => rfl
  | [], _ :: _, h => by simp at h
  | _ :: _, [], h => by simp at h
  | x :: xs, y :: ys, h => by
    have ih := all_range_eq xs ys (by simpa using h)
    rw [List.length_cons, List.range_succ_eq_map, List.all_cons, List.all_map]
    simp only [List.getD_cons_zero, Function.comp_def, List.getD_cons_succ]
    rw [ih]
    rfl

theorem run_equalIn_ints (d n : Nat) (t e : TypeId) (k : IntKind) (xs ys : List Int) (ht : P.underlying t = some (.array n e)) (he : P.underlying e = some (.int k)) (hs : (Go.sizeOf e).run P w = .ok 1 w)
    (hx : xs.length = n) (hy : ys.length = n) :
    (Op.equalIn (d + 2) t (.agg (xs.map (Value.int k)).toArray) (.agg (ys.map (Value.int k)).toArray)).run P w = .ok (xs == ys) w := by
  rw [run_equalIn_array w (d + 1) n 1 t e _ _ (fun i => .int k (xs.getD i 0)) (fun i => .int k (ys.getD i 0)) (fun i => xs.getD i 0 == ys.getD i 0) ht hs
    (fun i hi => part_one w (isAgg_int w he) (by simp [List.getElem?_eq_getElem (show i < xs.length by omega)]))
    (fun i hi => part_one w (isAgg_int w he) (by simp [List.getElem?_eq_getElem (show i < ys.length by omega)]))
    (fun i hi => by simp [Op.equalIn, run_underlying he])]
  congr 1
  rw [← hx]
  exact all_range_eq xs ys (by omega)

@[go_sem] theorem run_equalIn_four (d : Nat) (t : TypeId) (a b c e x y z u : Int) (p : TypeId) (ht : P.underlying t = some (.array 4 p)) (he : P.underlying p = some (.int .u64)) (hs : (Go.sizeOf p).run P w = .ok 1 w) :
    (Op.equalIn (d + 2) t (.agg #[.int .u64 a, .int .u64 b, .int .u64 c, .int .u64 e]) (.agg #[.int .u64 x, .int .u64 y, .int .u64 z, .int .u64 u])).run P w = .ok (a == x && (b == y && (c == z && e == u))) w := by
  have h := run_equalIn_ints w d 4 t p .u64 [a, b, c, e] [x, y, z, u] ht he hs rfl rfl
  have k : ([a, b, c, e] == [x, y, z, u]) = (a == x && (b == y && (c == z && e == u))) := by
    rw [Bool.eq_iff_iff]; simp
  rw [k] at h
  exact h
end
end Go.Flo
