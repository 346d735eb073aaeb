/-
  florinlaw02.theirs, ours, florinref02.Same.
-/
import Derived.Test.YtkgjgdeaclefiaaShaI
namespace Go.Proofs.Ytkgjgdeaclefiaa
open Go Go.Proofs Go.RowKit Go.Flo

set_option maxRecDepth 100000 in
set_option maxHeartbeats 2000000 in
theorem theirs_c (V : Value) (s : ShaS) (w0 : World) (hV : RdS w0 V s) : Calls Try.prog 45 #[V] w0 fun e w' => e = .returned V ∧ Below w0.heap.size w0 w' := by
  obtain ⟨⟨a, b, c, d, e, f, g, k, v, rfl, hs, hr⟩, hn, hl⟩ := hV
  obtain ⟨p, cap, rfl⟩ := hr.shape
  clear hr hs hn hl
  generalize s.n = n at *
  generalize s.rest.length = m at *
  have M := Mem.nil w0; have F := Mem.facts M; simp only [MemFacts] at F; (try simp only [ApartFacts] at F)
  go_enter Try.func45, Try.ntmps45
  go_wp2
  have M2 := (Mem.alloc (Mem.alloc M (cs := #[.int .u32 (a.toNat : Int), .int .u32 (b.toNat : Int), .int .u32 (c.toNat : Int), .int .u32 (d.toNat : Int), .int .u32 (e.toNat : Int), .int .u32 (f.toNat : Int), .int .u32 (g.toNat : Int), .int .u32 (k.toNat : Int), .slice p m cap, .int .u64 (n : Int)]) (t := 46)) (cs := #[.int .u32 (a.toNat : Int), .int .u32 (b.toNat : Int), .int .u32 (c.toNat : Int), .int .u32 (d.toNat : Int), .int .u32 (e.toNat : Int), .int .u32 (f.toNat : Int), .int .u32 (g.toNat : Int), .int .u32 (k.toNat : Int), .slice p m cap, .int .u64 (n : Int)]) (t := 52))
  refine bodyPost_ret (v := st10 a b c d e f g k (.slice p m cap) n) (by simp [results, Try.results45, go_sem]) rfl ⟨rfl, M2.below⟩
/-- Are two states the same. -/
def sameS (s t : ShaS) : Bool := (s.h == t.h) && ((s.rest == t.rest) && decide (s.n = t.n))
theorem sameS_refl (s : ShaS) : sameS s s = true := by simp [sameS]
set_option maxRecDepth 100000 in
set_option maxHeartbeats 2000000 in
theorem same_c (V U : Value) (s t : ShaS) (w0 : World) (hV : RdS w0 V s) (hU : RdS w0 U t) : Calls Try.prog 44 #[V, U] w0 fun e w' => e = .returned (.bool (sameS s t)) ∧ Below w0.heap.size w0 w' := by
  obtain ⟨⟨a, b, c, d, e, f, g, k, v, rfl, hs, hr⟩, hn, hl⟩ := hV
  obtain ⟨⟨a2, b2, c2, d2, e2, f2, g2, k2, v2, rfl, hs2, hr2⟩, hn2, _⟩ := hU
  have C1 := fun w (hb : Below w0.heap.size w0 w) => rd8_string (src := 42) (dst := 9) Try.underlying42 Try.underlying5 Try.underlying9 (hr.below hb)
  have C2 := fun w (hb : Below w0.heap.size w0 w) => rd8_string (src := 42) (dst := 9) Try.underlying42 Try.underlying5 Try.underlying9 (hr2.below hb)
  obtain ⟨p, cap, rfl⟩ := hr.shape
  obtain ⟨p2, cap2, rfl⟩ := hr2.shape
  clear hr hr2
  unfold sameS
  have E8 := fun w => run_equalIn_wA (P := Try.prog) w 9998 8 44 43 [a, b, c, d, e, f, g, k] [a2, b2, c2, d2, e2, f2, g2, k2] rfl rfl Try.underlying44 Try.underlying43 (by kernel_rfl)
  rw [wA8, wA8] at E8
  rw [hs, hs2]
  have HN := Lib.hid hn
  have HN2 := Lib.hid hn2
  clear hs hs2 hn hn2 hl
  generalize s.n = n at *
  generalize t.n = n2 at *
  generalize s.rest = l1 at *
  generalize t.rest = l2 at *
  have hq3 : (decide ((n : Int) = (n2 : Int))) = decide (n = n2) := by rw [Bool.eq_iff_iff]; simp; omega
  generalize ([a, b, c, d, e, f, g, k] == [a2, b2, c2, d2, e2, f2, g2, k2]) = q1 at *
  have K1 : (w0.alloc (.cells #[.int .u32 (a.toNat : Int), .int .u32 (b.toNat : Int), .int .u32 (c.toNat : Int), .int .u32 (d.toNat : Int), .int .u32 (e.toNat : Int), .int .u32 (f.toNat : Int), .int .u32 (g.toNat : Int), .int .u32 (k.toNat : Int), .slice p l1.length cap, .int .u64 (n : Int)] 52)).heap.size = w0.heap.size + 1 := by simp
  rcases q1 with _ | _
  all_goals
    have M := Mem.nil w0; have F := Mem.facts M; simp only [MemFacts] at F; (try simp only [ApartFacts] at F)
    go_enter Try.func44, Try.ntmps44
    have c1 := C1 _ (Mem.below (Mem.alloc (Mem.alloc M (cs := #[.int .u32 (a.toNat : Int), .int .u32 (b.toNat : Int), .int .u32 (c.toNat : Int), .int .u32 (d.toNat : Int), .int .u32 (e.toNat : Int), .int .u32 (f.toNat : Int), .int .u32 (g.toNat : Int), .int .u32 (k.toNat : Int), .slice p l1.length cap, .int .u64 (n : Int)]) (t := 52)) (cs := #[.int .u32 (a2.toNat : Int), .int .u32 (b2.toNat : Int), .int .u32 (c2.toNat : Int), .int .u32 (d2.toNat : Int), .int .u32 (e2.toNat : Int), .int .u32 (f2.toNat : Int), .int .u32 (g2.toNat : Int), .int .u32 (k2.toNat : Int), .slice p2 l2.length cap2, .int .u64 (n2 : Int)]) (t := 52)))
    have c2 := C2 _ (Mem.below (Mem.alloc (Mem.alloc M (cs := #[.int .u32 (a.toNat : Int), .int .u32 (b.toNat : Int), .int .u32 (c.toNat : Int), .int .u32 (d.toNat : Int), .int .u32 (e.toNat : Int), .int .u32 (f.toNat : Int), .int .u32 (g.toNat : Int), .int .u32 (k.toNat : Int), .slice p l1.length cap, .int .u64 (n : Int)]) (t := 52)) (cs := #[.int .u32 (a2.toNat : Int), .int .u32 (b2.toNat : Int), .int .u32 (c2.toNat : Int), .int .u32 (d2.toNat : Int), .int .u32 (e2.toNat : Int), .int .u32 (f2.toNat : Int), .int .u32 (g2.toNat : Int), .int .u32 (k2.toNat : Int), .slice p2 l2.length cap2, .int .u64 (n2 : Int)]) (t := 52)))
    clear C1 C2 K1
    go_wp2
    all_goals
      go_ret
      refine ⟨?_, Mem.below (Mem.alloc (Mem.alloc M))⟩
      clear c1 c2 E8 M F
      first | rfl | (simp only [Bool.true_and, Bool.false_and]; done) | (simp_all; done) | (show Ending.returned (Value.bool ((n : Int) == (n2 : Int))) = _; rw [show ((n : Int) == (n2 : Int)) = decide (n = n2) by rw [Bool.eq_iff_iff]; simp; omega]; simp [*])
end Go.Proofs.Ytkgjgdeaclefiaa
