/-
  target.both, Meets.
-/
import Derived.Test.YtkgjgdeaclefiaaTot
namespace Go.Proofs.Ytkgjgdeaclefiaa
open Go Go.Proofs Go.RowKit Go.Flo

set_option maxRecDepth 100000 in
set_option maxHeartbeats 4000000 in
theorem both_main (a b t l : Nat) (e f : Int) (x y : Bool) (w0 : World) (X1 : Gives 89 #[.int .u32 (a : Int)] (.tuple #[uV t, .int .i64 e])) (X2 : Gives 89 #[.int .u32 (b : Int)] (.tuple #[uV l, .int .i64 f]))
    (hx : (e == 0) = x) (hy : (f == 0) = y) :
    Calls Try.prog 131 #[.int .u32 (a : Int), .int .u32 (b : Int)] w0 fun e w' => e = .returned (.tuple #[uV t, uV l, .bool (x && y)]) ∧ Below w0.heap.size w0 w' := by
  rcases x with _ | _
  all_goals
    have M := Mem.nil w0; have F := Mem.facts M; simp only [MemFacts] at F; (try simp only [ApartFacts] at F)
    go_enter Try.func131, Try.ntmps131
    go_wp2_with (first | (go_at_call 89; (with_reducible refine (X1 _).mono ?_); rintro e w1 ⟨rfl, hb⟩; replace M := Mem.call (w0 := w0) (by repeat' (first | (with_reducible exact M) | (with_reducible apply Mem.drew) | (with_reducible apply Mem.alloc))) hb; clear hb; (try clear F); (try simp only [World.size_alloc] at M); (try simp only [heap_drew] at M); have F := Mem.facts M; simp only [MemFacts] at F; (try simp only [ApartFacts] at F)) | (go_at_call 89; (with_reducible refine (X2 _).mono ?_); rintro e w1 ⟨rfl, hb⟩; replace M := Mem.call (w0 := w0) (by repeat' (first | (with_reducible exact M) | (with_reducible apply Mem.drew) | (with_reducible apply Mem.alloc))) hb; clear hb; (try clear F); (try simp only [World.size_alloc] at M); (try simp only [heap_drew] at M); have F := Mem.facts M; simp only [MemFacts] at F; (try simp only [ApartFacts] at F)))
    replace M := Mem.alloc M (cs := #[.int .u64 (l0 l), .int .u64 (l1 l), .int .u64 (l2 l), .int .u64 (l3 l)]) (t := 32)
    ((try clear F); obtain ⟨wg, eg, M⟩ : ∃ wg, wg = _ ∧ Mem w0 wg _ := ⟨_, rfl, M⟩; (try unfold Flo.put4 at eg); rw [← eg]; clear eg; have F := Mem.facts M; simp only [MemFacts] at F; (try simp only [ApartFacts] at F))
    (refine Flo.wp_region_held (fun b => b < wg.heap.size ∧ b ≠ w0.heap.size ∧ b ≠ w0.heap.size + 1) (by kernel_rfl) (by decide +kernel) ?_; repeat (first | (refine Flo.au_skip (by exact rfl) (by exact rfl) ?_; simp only [Act.put, List.setIfInBounds_toArray, List.set_cons_zero, List.set_cons_succ]) | (refine Flo.hx_free (by exact rfl) (by exact rfl) (by exact rfl) ?_; intro K hK; go_big_quiet_op; go_big_quiet_on) | (refine Flo.au_move (by exact rfl) (by exact rfl) ?_; intro K hK; go_wp2_with (fail); refine ⟨(by repeat' (first | (with_reducible assumption) | (with_reducible exact InExt.refl _ _) | (with_reducible refine InExt.drew ?_) | (with_reducible refine InExt.alloc ?_ ?_ _) | (with_reducible refine InExt.setCell ?_ ?_ _) | (with_reducible refine InExt.below ?_ ?_ (by assumption)) | (simp; done) | (simp; omega))), ?_⟩) | (refine Flo.mix_nil ?_)))
    go_wp2
    have M2 := ((M.put4 3 rfl (.int .u64 (l0 t)) (.int .u64 (l1 t)) (.int .u64 (l2 t)) (.int .u64 (l3 t))).put4 2 rfl (.int .u64 (l0 l)) (.int .u64 (l1 l)) (.int .u64 (l2 l)) (.int .u64 (l3 l))).drew
    have h0 := fun j => cell_of_row _ _ j _ _ _ (M2.at 3 rfl)
    have h1 := fun j => cell_of_row _ _ j _ _ _ (M2.at 2 rfl)
    first | (refine bodyPost_ret (v := .tuple #[uV t, uV l, .bool y]) (by simp [results, Try.results131, go_sem, h0, h1]) rfl ⟨rfl, M2.below⟩) | (refine bodyPost_ret (v := .tuple #[uV t, uV l, .bool false]) (by simp [results, Try.results131, go_sem, h0, h1]) rfl ⟨rfl, M2.below⟩)
def okN (a b : Nat) : Bool := !badT a && !badT b
theorem both_c (a b : Nat) (ha : a < 4294967296) (hb : b < 4294967296) : Gives 131 #[.int .u32 (a : Int), .int .u32 (b : Int)] (.tuple #[uV (expandN a).1, uV (expandN b).1, .bool (okN a b)]) := fun w => by
  have key : ∀ c, (((expandN c).2 : Int) == 0) = !badT c := fun c => by
    cases h : badT c with
    | true => rw [expandN_bad h]; rfl
    | false => rw [expandN_of h]; rfl
  exact both_main a b _ _ _ _ _ _ w (expand_c a ha) (expand_c b hb) (key a) (key b)
end Go.Proofs.Ytkgjgdeaclefiaa
