/-
  bytes.Equal, hash.Witness, florinlaw03.HashNone.
-/
import Derived.Test.YtkgjgdeaclefiaaShaI
import Derived.Test.YtkgjgdeaclefiaaHashP
namespace Go.Proofs.Ytkgjgdeaclefiaa
open Go Go.Proofs Go.RowKit Go.Flo

set_option maxRecDepth 100000 in
set_option maxHeartbeats 1000000 in
theorem equal_c (v u : Value) (l k : List UInt8) (w0 : World) (hV : Rd8 w0 v l) (hU : Rd8 w0 u k) :
    Calls Try.prog 129 #[v, u] w0 fun e w' => e = .returned (.bool (l == k)) ∧ Below w0.heap.size w0 w' := by
  have c1 := rd8_string (src := 42) (dst := 9) Try.underlying42 Try.underlying5 Try.underlying9 hV
  have c2 := rd8_string (src := 42) (dst := 9) Try.underlying42 Try.underlying5 Try.underlying9 hU
  obtain ⟨p, cap, rfl⟩ := hV.shape
  obtain ⟨p2, cap2, rfl⟩ := hU.shape
  clear hV hU
  have M := Mem.nil w0; have F := Mem.facts M; simp only [MemFacts] at F; (try simp only [ApartFacts] at F)
  go_enter Try.func129, Try.ntmps129
  go_wp2
  go_ret
  exact ⟨rfl, M.below⟩
/-- Do two unlike texts have one sum. -/
def witB (l k : List UInt8) : Bool := !(l == k) && (sumV l == sumV k)
theorem witB_self (l : List UInt8) : witB l l = false := by simp [witB]
theorem witB_comm (l k : List UInt8) : witB l k = witB k l := by
  unfold witB
  rw [Bool.beq_comm (a := l), Bool.beq_comm (a := sumV l)]
set_option maxRecDepth 100000 in
set_option maxHeartbeats 1000000 in
theorem witness_main (v u : Value) (q : Bool) (a b : List UInt8) (ha : a.length = 32) (hb : b.length = 32) (w0 : World)
    (E : ∀ w, Below w0.heap.size w0 w → Calls Try.prog 129 #[v, u] w fun e w' => e = .returned (.bool q) ∧ Below w.heap.size w w')
    (S1 : ∀ w, Below w0.heap.size w0 w → Calls Try.prog 43 #[v] w fun e w' => e = .returned (.agg (bA a)) ∧ Below w.heap.size w w')
    (S2 : ∀ w, Below w0.heap.size w0 w → Calls Try.prog 43 #[u] w fun e w' => e = .returned (.agg (bA b)) ∧ Below w.heap.size w w') :
    Calls Try.prog 85 #[v, u] w0 fun e w' => e = .returned (.bool (!q && (a == b))) ∧ Below w0.heap.size w0 w' := by
  rcases q with _ | _
  rotate_left
  focus
    have M := Mem.nil w0; have F := Mem.facts M; simp only [MemFacts] at F; (try simp only [ApartFacts] at F)
    go_enter Try.func85, Try.ntmps85
    go_wp2_with (first | (go_at_call 129; ((with_reducible refine (E _ ?_).mono ?_); (focus (apply Mem.below (w0 := w0); repeat' (first | (with_reducible exact M) | (with_reducible apply Mem.drew) | (with_reducible apply Mem.alloc))))); rintro o w1 ⟨rfl, hb⟩; replace M := Mem.call (w0 := w0) (by repeat' (first | (with_reducible exact M) | (with_reducible apply Mem.drew) | (with_reducible apply Mem.alloc))) hb; clear hb; (try clear F); (try simp only [World.size_alloc] at M); (try simp only [heap_drew] at M); have F := Mem.facts M; simp only [MemFacts] at F; (try simp only [ApartFacts] at F)))
    (go_wp2_with (fail); refine bodyPost_ret (v := .bool false) (by simp [results, Try.results85, go_sem]) rfl ⟨rfl, (Mem.below (w0 := w0) (by repeat' (first | (with_reducible exact M) | (with_reducible apply Mem.drew) | (with_reducible apply Mem.alloc))))⟩)
  focus
    have M := Mem.nil w0; have F := Mem.facts M; simp only [MemFacts] at F; (try simp only [ApartFacts] at F)
    go_enter Try.func85, Try.ntmps85
    go_wp2_with (first | (go_at_call 129; ((with_reducible refine (E _ ?_).mono ?_); (focus (apply Mem.below (w0 := w0); repeat' (first | (with_reducible exact M) | (with_reducible apply Mem.drew) | (with_reducible apply Mem.alloc))))); rintro o w1 ⟨rfl, hb⟩; replace M := Mem.call (w0 := w0) (by repeat' (first | (with_reducible exact M) | (with_reducible apply Mem.drew) | (with_reducible apply Mem.alloc))) hb; clear hb; (try clear F); (try simp only [World.size_alloc] at M); (try simp only [heap_drew] at M); have F := Mem.facts M; simp only [MemFacts] at F; (try simp only [ApartFacts] at F)) | (go_at_call 43; (first | ((with_reducible refine (S1 _ ?_).mono ?_); (focus (apply Mem.below (w0 := w0); repeat' (first | (with_reducible exact M) | (with_reducible apply Mem.drew) | (with_reducible apply Mem.alloc))))) | ((with_reducible refine (S2 _ ?_).mono ?_); (focus (apply Mem.below (w0 := w0); repeat' (first | (with_reducible exact M) | (with_reducible apply Mem.drew) | (with_reducible apply Mem.alloc)))))); rintro o w1 ⟨rfl, hb⟩; replace M := Mem.call (w0 := w0) (by repeat' (first | (with_reducible exact M) | (with_reducible apply Mem.drew) | (with_reducible apply Mem.alloc))) hb; clear hb; (try clear F); (try simp only [World.size_alloc] at M); (try simp only [heap_drew] at M); have F := Mem.facts M; simp only [MemFacts] at F; (try simp only [ApartFacts] at F)))
    (go_wp2_with (fail); refine bodyPost_ret (v := .bool (a == b)) (by simp [results, Try.results85, go_sem]) rfl ⟨rfl, (Mem.below (w0 := w0) (by repeat' (first | (with_reducible exact M) | (with_reducible apply Mem.drew) | (with_reducible apply Mem.alloc))))⟩)
theorem witness_c (v u : Value) (l k : List UInt8) (hl : l.length ≤ 1000000) (hk : k.length ≤ 1000000) (w0 : World) (hV : Rd8 w0 v l) (hU : Rd8 w0 u k) :
    Calls Try.prog 85 #[v, u] w0 fun e w' => e = .returned (.bool (witB l k)) ∧ Below w0.heap.size w0 w' :=
  witness_main v u (l == k) (sumV l) (sumV k) (sumV_length _) (sumV_length _) w0 (fun w hb => equal_c v u l k w (hV.below hb) (hU.below hb)) (fun w hb => sum_c v l hl w (hV.below hb)) (fun w hb => sum_c u k hk w (hU.below hb))
set_option maxRecDepth 100000 in
set_option maxHeartbeats 1000000 in
theorem hnone_main (v u : Value) (m n : Nat) (q : Bool) (w0 : World) (hv : ∃ a c, v = .slice a m c) (hu : ∃ a c, u = .slice a n c) (hm : m ≤ 200) (hn : n ≤ 200)
    (W1 : ∀ w, Below w0.heap.size w0 w → Calls Try.prog 85 #[v, v] w fun e w' => e = .returned (.bool false) ∧ Below w.heap.size w w')
    (W2 : ∀ w, Below w0.heap.size w0 w → Calls Try.prog 85 #[v, u] w fun e w' => e = .returned (.bool q) ∧ Below w.heap.size w w')
    (W3 : ∀ w, Below w0.heap.size w0 w → Calls Try.prog 85 #[u, v] w fun e w' => e = .returned (.bool q) ∧ Below w.heap.size w w') :
    Calls Try.prog 14 #[v, u] w0 fun e w' => e = .returned (.bool true) ∧ Below w0.heap.size w0 w' := by
  obtain ⟨a0, c0, rfl⟩ := hv
  obtain ⟨a1, c1, rfl⟩ := hu
  have h1 : ¬ (200 < (m : Int)) := by omega
  have h2 : ¬ (200 < (n : Int)) := by omega
  have M := Mem.nil w0; have F := Mem.facts M; simp only [MemFacts] at F; (try simp only [ApartFacts] at F)
  go_enter Try.func14, Try.ntmps14
  go_wp2_with (first | (go_at_call 27; (with_reducible refine (awake3 _).mono ?_); rintro e w1 ⟨rfl, hb⟩; replace M := Mem.call (w0 := w0) (by repeat' (first | (with_reducible exact M) | (with_reducible apply Mem.drew) | (with_reducible apply Mem.alloc))) hb; clear hb; (try clear F); (try simp only [World.size_alloc] at M); (try simp only [heap_drew] at M); have F := Mem.facts M; simp only [MemFacts] at F; (try simp only [ApartFacts] at F)) | (go_at_call 85; (first | ((with_reducible refine (W1 _ ?_).mono ?_); (focus (apply Mem.below (w0 := w0); repeat' (first | (with_reducible exact M) | (with_reducible apply Mem.drew) | (with_reducible apply Mem.alloc))))) | ((with_reducible refine (W2 _ ?_).mono ?_); (focus (apply Mem.below (w0 := w0); repeat' (first | (with_reducible exact M) | (with_reducible apply Mem.drew) | (with_reducible apply Mem.alloc))))) | ((with_reducible refine (W3 _ ?_).mono ?_); (focus (apply Mem.below (w0 := w0); repeat' (first | (with_reducible exact M) | (with_reducible apply Mem.drew) | (with_reducible apply Mem.alloc)))))); rintro o w1 ⟨rfl, hb⟩; replace M := Mem.call (w0 := w0) (by repeat' (first | (with_reducible exact M) | (with_reducible apply Mem.drew) | (with_reducible apply Mem.alloc))) hb; clear hb; (try clear F); (try simp only [World.size_alloc] at M); (try simp only [heap_drew] at M); have F := Mem.facts M; simp only [MemFacts] at F; (try simp only [ApartFacts] at F)))
  (go_wp2_with (fail); refine bodyPost_ret (v := .bool true) (by simp [results, Try.results14, go_sem]) rfl ⟨rfl, (Mem.below (w0 := w0) (by repeat' (first | (with_reducible exact M) | (with_reducible apply Mem.drew) | (with_reducible apply Mem.alloc))))⟩)
set_option maxRecDepth 100000 in
set_option maxHeartbeats 1000000 in
theorem hnone_short (v u : Value) (m n : Nat) (w0 : World) (hv : ∃ a c, v = .slice a m c) (hu : ∃ a c, u = .slice a n c) (h : 200 < m ∨ (¬ 200 < m ∧ 200 < n)) :
    Calls Try.prog 14 #[v, u] w0 fun e w' => e = .returned (.bool true) ∧ Below w0.heap.size w0 w' := by
  obtain ⟨a0, c0, rfl⟩ := hv
  obtain ⟨a1, c1, rfl⟩ := hu
  rcases h with h | ⟨h, h2⟩
  · have h1 : 200 < (m : Int) := by omega
    have M := Mem.nil w0; have F := Mem.facts M; simp only [MemFacts] at F; (try simp only [ApartFacts] at F)
    go_enter Try.func14, Try.ntmps14
    go_wp2_with (first | (go_at_call 27; (with_reducible refine (awake3 _).mono ?_); rintro e w1 ⟨rfl, hb⟩; replace M := Mem.call (w0 := w0) (by repeat' (first | (with_reducible exact M) | (with_reducible apply Mem.drew) | (with_reducible apply Mem.alloc))) hb; clear hb; (try clear F); (try simp only [World.size_alloc] at M); (try simp only [heap_drew] at M); have F := Mem.facts M; simp only [MemFacts] at F; (try simp only [ApartFacts] at F)))
    (go_wp2_with (fail); refine bodyPost_ret (v := .bool true) (by simp [results, Try.results14, go_sem]) rfl ⟨rfl, (Mem.below (w0 := w0) (by repeat' (first | (with_reducible exact M) | (with_reducible apply Mem.drew) | (with_reducible apply Mem.alloc))))⟩)
  · have h1 : ¬ (200 < (m : Int)) := by omega
    have h2' : 200 < (n : Int) := by omega
    have M := Mem.nil w0; have F := Mem.facts M; simp only [MemFacts] at F; (try simp only [ApartFacts] at F)
    go_enter Try.func14, Try.ntmps14
    go_wp2_with (first | (go_at_call 27; (with_reducible refine (awake3 _).mono ?_); rintro e w1 ⟨rfl, hb⟩; replace M := Mem.call (w0 := w0) (by repeat' (first | (with_reducible exact M) | (with_reducible apply Mem.drew) | (with_reducible apply Mem.alloc))) hb; clear hb; (try clear F); (try simp only [World.size_alloc] at M); (try simp only [heap_drew] at M); have F := Mem.facts M; simp only [MemFacts] at F; (try simp only [ApartFacts] at F)))
    (go_wp2_with (fail); refine bodyPost_ret (v := .bool true) (by simp [results, Try.results14, go_sem]) rfl ⟨rfl, (Mem.below (w0 := w0) (by repeat' (first | (with_reducible exact M) | (with_reducible apply Mem.drew) | (with_reducible apply Mem.alloc))))⟩)
end Go.Proofs.Ytkgjgdeaclefiaa
