/-
  retarget.Clamp, First, within, Sane, Next.
-/
import Derived.Test.YtkgjgdeaclefiaaRt1
import Derived.Test.YtkgjgdeaclefiaaWc
namespace Go.Proofs.Ytkgjgdeaclefiaa
open Go Go.Proofs Go.RowKit Go.Flo

def spanI (s : Int) : Int := max 4 (min s 1099511627776)
def clampI (a s : Int) : Int := min (max a (spanI s / 4)) (spanI s * 4)
def intvI (n : Int) : Int := max 1 (min n 1048576)
def firstI (h n : Int) : Int := max h (intvI n) - intvI n
set_option maxRecDepth 100000 in
set_option maxHeartbeats 1000000 in
theorem clamp_c (a s : Int) (h1 : -9223372036854775808 ≤ a) (h2 : a ≤ 9223372036854775807) (h3 : -9223372036854775808 ≤ s) (h4 : s ≤ 9223372036854775807) : Gives 100 #[.int .i64 a, .int .i64 s] (.int .i64 (clampI a s)) := fun w0 => by
  have M := Mem.nil w0; have F := Mem.facts M; simp only [MemFacts] at F; (try simp only [ApartFacts] at F)
  go_enter Try.func100, Try.ntmps100
  unfold clampI spanI
  (go_wp2_with (fail); refine bodyPost_ret (v := .int .i64 (min (max a (max 4 (min s 1099511627776) / 4)) (max 4 (min s 1099511627776) * 4))) (by simp [results, Try.results100, go_sem]) rfl ⟨rfl, (Mem.below (w0 := w0) (by repeat' (first | (with_reducible exact M) | (with_reducible apply Mem.drew) | (with_reducible apply Mem.alloc))))⟩)
set_option maxRecDepth 100000 in
set_option maxHeartbeats 1000000 in
theorem first_c (a s : Int) (h1 : -9223372036854775808 ≤ a) (h2 : a ≤ 9223372036854775807) (h3 : -9223372036854775808 ≤ s) (h4 : s ≤ 9223372036854775807) : Gives 101 #[.int .i64 a, .int .i64 s] (.int .i64 (firstI a s)) := fun w0 => by
  have M := Mem.nil w0; have F := Mem.facts M; simp only [MemFacts] at F; (try simp only [ApartFacts] at F)
  go_enter Try.func101, Try.ntmps101
  unfold firstI intvI
  (go_wp2_with (fail); refine bodyPost_ret (v := .int .i64 (max a (max 1 (min s 1048576)) - max 1 (min s 1048576))) (by simp [results, Try.results101, go_sem]) rfl ⟨rfl, (Mem.below (w0 := w0) (by repeat' (first | (with_reducible exact M) | (with_reducible apply Mem.drew) | (with_reducible apply Mem.alloc))))⟩)
/-- Are all numbers as they have to be. -/
def withinB (L : List (Int × Int × Int)) : Bool := L.all fun x => decide (x.2.1 ≤ x.1) && decide (x.1 ≤ x.2.2)
structure WinR (L : List (Int × Int × Int)) (w0 : World) (k : Value) (wr : World) (t : Nat) : Prop where
  le : t ≤ L.length
  k : k = .int .i64 (t : Int)
  ok : withinB (L.take t) = true
  mem : Mem w0 wr []
theorem withinB_next (L : List (Int × Int × Int)) (t : Nat) (h : t < L.length) : withinB (L.take (t + 1)) = (withinB (L.take t) && (decide (L[t].2.1 ≤ L[t].1) && decide (L[t].1 ≤ L[t].2.2))) := by
  rw [List.take_succ_eq_append_getElem h]
  unfold withinB
  rw [List.all_append]
  simp
theorem withinB_bad (L : List (Int × Int × Int)) (t : Nat) (h : t < L.length) (hb : (decide (L[t].2.1 ≤ L[t].1) && decide (L[t].1 ≤ L[t].2.2)) = false) : withinB L = false := by
  unfold withinB
  rw [List.all_eq_false]
  exact ⟨L[t], List.getElem_mem h, by rw [hb]; decide⟩
set_option maxRecDepth 100000 in
set_option maxHeartbeats 2000000 in
theorem within_c (b : Nat) (L : List (Int × Int × Int)) (hL : L.length ≤ 100) (cap : Nat) (w0 : World) (hb : b < w0.heap.size)
    (hc : ∀ j (h : j < L.length), w0.cell? ⟨b, j * 3, none⟩ = some (.int .i64 L[j].1) ∧ w0.cell? ⟨b, j * 3 + 1, none⟩ = some (.int .i64 L[j].2.1) ∧ w0.cell? ⟨b, j * 3 + 2, none⟩ = some (.int .i64 L[j].2.2)) :
    Calls Try.prog 133 #[.slice (some ⟨b, 0, none⟩) L.length cap] w0 fun e w' => e = .returned (.bool (withinB L)) ∧ Below w0.heap.size w0 w' := by
  have HC := Lib.hid hc
  clear hc
  have M := Mem.nil w0; have F := Mem.facts M; simp only [MemFacts] at F; (try simp only [ApartFacts] at F)
  go_enter Try.func133, Try.ntmps133
  go_wp2
  go_loopw [7] (fun k wr => ∃ t, WinR L w0 k wr t) (fun k _ => (L.length - intOf k).toNat)
  case atStart => exact ⟨0, Nat.zero_le _, rfl, rfl, M⟩
  case round =>
    clear M F
    obtain ⟨t, le, rfl, ok, M⟩ := hrel
    have F := Mem.facts M; simp only [MemFacts] at F; (try simp only [ApartFacts] at F)
    rcases Nat.lt_or_ge t L.length with hlt | hge
    · obtain ⟨h0, h1, h2⟩ := HC.out t hlt
      have g0 := (M.below.cell (p := ⟨b, t * 3, none⟩) hb).trans h0
      have g1 := (M.below.cell (p := ⟨b, t * 3 + 1, none⟩) hb).trans h1
      have g2 := (M.below.cell (p := ⟨b, t * 3 + 2, none⟩) hb).trans h2
      have hn := withinB_next L t hlt
      have hbad := withinB_bad L t hlt
      have hlt' : (t : Int) < (L.length : Int) := by omega
      generalize L[t].1 = n at *
      generalize L[t].2.1 = lo at *
      generalize L[t].2.2 = hi at *
      have HN := Lib.hid hn
      have HBD := Lib.hid hbad
      clear hn hbad h0 h1 h2
      have hb2 : b < wr.heap.size := Nat.lt_of_lt_of_le hb M.size
      by_cases q1 : n < lo
      · go_wp2
        refine bodyPost_ret (v := .bool false) (by simp [results, Try.results133, go_sem]) rfl ⟨?_, (M.alloc (cs := #[.int .i64 n, .int .i64 lo, .int .i64 hi]) (t := 159)).below⟩
        rw [HBD.out (by rw [decide_eq_false (by omega)]; rfl)]
      · by_cases q2 : hi < n
        · go_wp2
          refine bodyPost_ret (v := .bool false) (by simp [results, Try.results133, go_sem]) rfl ⟨?_, (M.alloc (cs := #[.int .i64 n, .int .i64 lo, .int .i64 hi]) (t := 159)).below⟩
          rw [HBD.out (by rw [decide_eq_false (show ¬ n ≤ hi by omega), Bool.and_false])]
        · go_wp2
          refine ⟨⟨t + 1, hlt, by simp, ?_, (M.alloc (cs := #[.int .i64 n, .int .i64 lo, .int .i64 hi]) (t := 159)).pick [] (by decide)⟩, by simp only [intOf]; omega⟩
          rw [HN.out, ok, decide_eq_true (by omega), decide_eq_true (by omega)]
          rfl
    · obtain rfl : t = L.length := by omega
      rw [List.take_of_length_le (Nat.le_refl _)] at ok
      have HO := Lib.hid ok
      go_wp2
      refine bodyPost_ret (v := .bool true) (by simp [results, Try.results133, go_sem]) rfl ⟨by rw [HO.out], M.below⟩
end Go.Proofs.Ytkgjgdeaclefiaa
