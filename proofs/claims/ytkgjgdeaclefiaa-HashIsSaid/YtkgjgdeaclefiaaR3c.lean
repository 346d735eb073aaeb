/-
  florinref03: Witness.
-/
import Derived.Test.YtkgjgdeaclefiaaWit
import Derived.Test.YtkgjgdeaclefiaaShaU
namespace Go.Proofs.Ytkgjgdeaclefiaa
open Go Go.Proofs Go.RowKit Go.Flo

set_option maxRecDepth 100000 in
set_option maxHeartbeats 1000000 in
theorem rwitness3_c (v u : Value) (l k : List UInt8) (hl : l.length ≤ 1000000) (hk : k.length ≤ 1000000) (w0 : World) (hV : Rd8 w0 v l) (hU : Rd8 w0 u k) :
    Calls Try.prog 108 #[v, u] w0 fun e w' => e = .returned (.bool (witB l k)) ∧ Below w0.heap.size w0 w' := by
  have c1 := rd8_string (src := 42) (dst := 9) Try.underlying42 Try.underlying5 Try.underlying9 hV
  have c2 := rd8_string (src := 42) (dst := 9) Try.underlying42 Try.underlying5 Try.underlying9 hU
  have S1 := fun w (hb : Below w0.heap.size w0 w) => rsum_c v l hl w (hV.below hb)
  have S2 := fun w (hb : Below w0.heap.size w0 w) => rsum_c u k hk w (hU.below hb)
  have ha := sumV_length l
  have hb := sumV_length k
  unfold witB
  obtain ⟨p, cap, rfl⟩ := hV.shape
  obtain ⟨p2, cap2, rfl⟩ := hU.shape
  clear hV hU
  generalize sumV l = a at *
  generalize sumV k = b at *
  have M := Mem.nil w0; have F := Mem.facts M; simp only [MemFacts] at F; (try simp only [ApartFacts] at F)
  go_enter Try.func108, Try.ntmps108
  go_wp2_with (first | (go_at_call 49; (first | ((with_reducible refine (S1 _ ?_).mono ?_); (focus (apply Mem.below (w0 := w0); repeat' (first | (with_reducible exact M) | (with_reducible apply Mem.drew) | (with_reducible apply Mem.alloc))))) | ((with_reducible refine (S2 _ ?_).mono ?_); (focus (apply Mem.below (w0 := w0); repeat' (first | (with_reducible exact M) | (with_reducible apply Mem.drew) | (with_reducible apply Mem.alloc)))))); rintro o w1 ⟨rfl, hb⟩; replace M := Mem.call (w0 := w0) (by repeat' (first | (with_reducible exact M) | (with_reducible apply Mem.drew) | (with_reducible apply Mem.alloc))) hb; clear hb; (try clear F); (try simp only [World.size_alloc] at M); (try simp only [heap_drew] at M); have F := Mem.facts M; simp only [MemFacts] at F; (try simp only [ApartFacts] at F)))
  focus
    rename_i h
    rw [show (l == k) = true by simp [h]]
    (go_wp2_with (fail); refine bodyPost_ret (v := .bool false) (by simp [results, Try.results108, go_sem]) rfl ⟨rfl, (Mem.below (w0 := w0) (by repeat' (first | (with_reducible exact M) | (with_reducible apply Mem.drew) | (with_reducible apply Mem.alloc))))⟩)
  focus
    (go_wp2_with (fail); refine bodyPost_ret (v := .bool (!(l == k) && (a == b))) (by simp [results, Try.results108, go_sem]) rfl ⟨rfl, (Mem.below (w0 := w0) (by repeat' (first | (with_reducible exact M) | (with_reducible apply Mem.drew) | (with_reducible apply Mem.alloc))))⟩)
end Go.Proofs.Ytkgjgdeaclefiaa
