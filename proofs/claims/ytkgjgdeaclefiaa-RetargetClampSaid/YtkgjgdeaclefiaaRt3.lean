/-
  retarget.Sane, Next.
-/
import Derived.Test.YtkgjgdeaclefiaaRt2
namespace Go.Proofs.Ytkgjgdeaclefiaa
open Go Go.Proofs Go.RowKit Go.Flo

/-- A chain's rules, as their cells stand. -/
abbrev prm (c : Nat) (i s f x o : Int) (a : Option Addr) (n cp : Nat) : Value := .agg #[.int .u32 (c : Int), .int .i64 i, .int .i64 s, .int .i64 f, .int .i64 x, .int .i64 o, .slice a n cp]
def boundsL (i s f x o : Int) (n : Nat) : List (Int × Int × Int) := [(i, 1, 1048576), (s, 4, 1099511627776), (f, 0, 4294967296), (x, 0, 1048576), (o, 0, 1048576), ((n : Int), 0, 100)]
def saneB (c : Nat) (i s f x o : Int) (n : Nat) : Bool := !badT c && withinB (boundsL i s f x o n)
theorem heap_at (w : World) (o : Obj) (n : Nat) (h : w.heap.size = n) : (w.alloc o).heap[n]? = some o := h ▸ Go.heap_alloc_new w o
theorem within6 (i s f x o : Int) (n b : Nat) (T : TypeId) (w : World) (h : w.heap[b]? = some (.cells #[.int .i64 i, .int .i64 1, .int .i64 1048576, .int .i64 s, .int .i64 4, .int .i64 1099511627776, .int .i64 f, .int .i64 0, .int .i64 4294967296, .int .i64 x, .int .i64 0, .int .i64 1048576, .int .i64 o, .int .i64 0, .int .i64 1048576, .int .i64 (n : Int), .int .i64 0, .int .i64 100] T (0, 0))) :
    Calls Try.prog 133 #[.slice (some ⟨b, 0, none⟩) 6 6] w fun e w' => e = .returned (.bool (withinB (boundsL i s f x o n))) ∧ Below w.heap.size w w' := by
  refine within_c b (boundsL i s f x o n) (by simp [boundsL]) 6 w (heap_lt h) fun j hj => ?_
  have hj : j < 6 := hj
  rw [cell_of_row w b _ _ _ _ h, cell_of_row w b _ _ _ _ h, cell_of_row w b _ _ _ _ h]
  match j, hj with
  | 0, _ => exact ⟨rfl, rfl, rfl⟩
  | 1, _ => exact ⟨rfl, rfl, rfl⟩
  | 2, _ => exact ⟨rfl, rfl, rfl⟩
  | 3, _ => exact ⟨rfl, rfl, rfl⟩
  | 4, _ => exact ⟨rfl, rfl, rfl⟩
  | 5, _ => exact ⟨rfl, rfl, rfl⟩
set_option maxRecDepth 100000 in
set_option maxHeartbeats 2000000 in
theorem sane_main (c t n cp : Nat) (i s f x o e : Int) (a : Option Addr) (q : Bool) (w0 : World) (X1 : Gives 89 #[.int .u32 (c : Int)] (.tuple #[uV t, .int .i64 e])) (h : (e = 7 ∧ q = false) ∨ (e = 0 ∧ q = withinB (boundsL i s f x o n))) :
    Calls Try.prog 99 #[prm c i s f x o a n cp] w0 fun e w' => e = .returned (.bool q) ∧ Below w0.heap.size w0 w' := by
  have W6 := within6 i s f x o n
  rcases h with ⟨rfl, rfl⟩ | ⟨rfl, rfl⟩
  · have M := Mem.nil w0; have F := Mem.facts M; simp only [MemFacts] at F; (try simp only [ApartFacts] at F)
    go_enter Try.func99, Try.ntmps99
    go_wp2_with (first | (go_at_call 89; (with_reducible refine (X1 _).mono ?_); rintro o w1 ⟨rfl, hb⟩; replace M := Mem.call (w0 := w0) (by repeat' (first | (with_reducible exact M) | (with_reducible apply Mem.drew) | (with_reducible apply Mem.alloc))) hb; clear hb; (try clear F); (try simp only [World.size_alloc] at M); (try simp only [heap_drew] at M); have F := Mem.facts M; simp only [MemFacts] at F; (try simp only [ApartFacts] at F)))
    have M2 := M.alloc (cs := #[.int .u64 (l0 t), .int .u64 (l1 t), .int .u64 (l2 t), .int .u64 (l3 t)]) (t := 32)
    refine bodyPost_ret (v := .bool false) (by simp [results, Try.results99, go_sem]) rfl ⟨rfl, M2.below⟩
  · generalize withinB (boundsL i s f x o n) = q at *
    have M := Mem.nil w0; have F := Mem.facts M; simp only [MemFacts] at F; (try simp only [ApartFacts] at F)
    go_enter Try.func99, Try.ntmps99
    go_wp2_with (first | (go_at_call 89; (with_reducible refine (X1 _).mono ?_); rintro o w1 ⟨rfl, hb⟩; replace M := Mem.call (w0 := w0) (by repeat' (first | (with_reducible exact M) | (with_reducible apply Mem.drew) | (with_reducible apply Mem.alloc))) hb; clear hb; (try clear F); (try simp only [World.size_alloc] at M); (try simp only [heap_drew] at M); have F := Mem.facts M; simp only [MemFacts] at F; (try simp only [ApartFacts] at F)) | (go_at_call 133; ((with_reducible refine (W6 _ 159 _ ?_).mono ?_); (focus (exact heap_at _ _ _ (by simp)))); rintro o w1 ⟨rfl, hb⟩; replace M := Mem.call (w0 := w0) (by repeat' (first | (with_reducible exact M) | (with_reducible apply Mem.drew) | (with_reducible apply Mem.alloc))) hb; clear hb; (try clear F); (try simp only [World.size_alloc] at M); (try simp only [heap_drew] at M); have F := Mem.facts M; simp only [MemFacts] at F; (try simp only [ApartFacts] at F)))
    (go_wp2_with (fail); refine bodyPost_ret (v := .bool q) (by simp [results, Try.results99, go_sem]) rfl ⟨rfl, (Mem.below (w0 := w0) (by repeat' (first | (with_reducible exact M) | (with_reducible apply Mem.drew) | (with_reducible apply Mem.alloc))))⟩)
theorem sane_g (c : Nat) (i s f x o : Int) (a : Option Addr) (n cp : Nat) (hc : c < 4294967296) : Gives 99 #[prm c i s f x o a n cp] (.bool (saneB c i s f x o n)) := fun w => by
  refine sane_main c _ n cp i s f x o _ a _ w (expand_c c hc) ?_
  unfold saneB
  cases h : badT c with
  | true => exact .inl ⟨by rw [expandN_bad h]; rfl, rfl⟩
  | false => exact .inr ⟨by rw [expandN_of h]; rfl, by simp⟩
set_option maxRecDepth 100000 in
set_option maxHeartbeats 2000000 in
theorem next_main (c n cp : Nat) (i s f x o height cl bits time first : Int) (a : Option Addr) (hc : Array Value) (q : Bool) (r : Int) (w0 : World) (h65 : hc[65]? = some (.int .u32 time)) (h66 : hc[66]? = some (.int .u32 bits))
    (ht0 : 0 ≤ time) (ht : time < 4294967296) (hf0 : 0 ≤ first) (hf : first < 4294967296)
    (SG : Gives 99 #[prm c i s f x o a n cp] (.bool q)) (CL : Gives 100 #[.int .i64 (time - first), .int .i64 s] (.int .i64 cl)) (SC : Gives 132 #[.int .u32 bits, .int .u64 cl, .int .u64 s, .int .u32 (c : Int)] (.int .u32 r))
    (hi : 0 < i) (hi2 : i ≤ 1048576) (hs : 0 < s) (hs2 : s ≤ 1099511627776) (hcl : 0 < cl) (hcl2 : cl ≤ 4398046511104) (hh : 0 < height) (hh2 : height ≤ 9223372036854775807) (hm : height % i = 0) (hq : q = true) :
    Calls Try.prog 98 #[prm c i s f x o a n cp, .int .i64 height, .agg hc, .int .u32 first] w0 fun e w' => e = .returned (.int .u32 r) ∧ Below w0.heap.size w0 w' := by
  subst hq
  have M := Mem.nil w0; have F := Mem.facts M; simp only [MemFacts] at F; (try simp only [ApartFacts] at F)
  go_enter Try.func98, Try.ntmps98
  go_wp2_with (first | (refine wl_box rfl 115 (.tmp 2) rfl rfl ?_; (try simp only [World.size_alloc])) | (go_at_call 99; (with_reducible refine (SG _).mono ?_); rintro o w1 ⟨rfl, hb⟩; replace M := Mem.call (w0 := w0) (by repeat' (first | (with_reducible exact M) | (with_reducible apply Mem.drew) | (with_reducible apply Mem.alloc))) hb; clear hb; (try clear F); (try simp only [World.size_alloc] at M); (try simp only [heap_drew] at M); have F := Mem.facts M; simp only [MemFacts] at F; (try simp only [ApartFacts] at F)) | (go_at_call 100; (with_reducible refine (CL _).mono ?_); rintro o w1 ⟨rfl, hb⟩; replace M := Mem.call (w0 := w0) (by repeat' (first | (with_reducible exact M) | (with_reducible apply Mem.drew) | (with_reducible apply Mem.alloc))) hb; clear hb; (try clear F); (try simp only [World.size_alloc] at M); (try simp only [heap_drew] at M); have F := Mem.facts M; simp only [MemFacts] at F; (try simp only [ApartFacts] at F)) | (go_at_call 132; (with_reducible refine (SC _).mono ?_); rintro o w1 ⟨rfl, hb⟩; replace M := Mem.call (w0 := w0) (by repeat' (first | (with_reducible exact M) | (with_reducible apply Mem.drew) | (with_reducible apply Mem.alloc))) hb; clear hb; (try clear F); (try simp only [World.size_alloc] at M); (try simp only [heap_drew] at M); have F := Mem.facts M; simp only [MemFacts] at F; (try simp only [ApartFacts] at F)))
  (go_wp2_with (fail); refine bodyPost_ret (v := .int .u32 r) (by simp [results, Try.results98, go_sem]) rfl ⟨rfl, (Mem.below (w0 := w0) (by repeat' (first | (with_reducible exact M) | (with_reducible apply Mem.drew) | (with_reducible apply Mem.alloc))))⟩)
set_option maxRecDepth 100000 in
set_option maxHeartbeats 2000000 in
theorem next_bad (c n cp : Nat) (i s f x o height first : Int) (a : Option Addr) (hc : Array Value) (w0 : World) (SG : Gives 99 #[prm c i s f x o a n cp] (.bool false)) :
    Calls Try.prog 98 #[prm c i s f x o a n cp, .int .i64 height, .agg hc, .int .u32 first] w0 fun e w' => e = .returned (.int .u32 (c : Int)) ∧ Below w0.heap.size w0 w' := by
  have M := Mem.nil w0; have F := Mem.facts M; simp only [MemFacts] at F; (try simp only [ApartFacts] at F)
  go_enter Try.func98, Try.ntmps98
  go_wp2_with (first | (refine wl_box rfl 115 (.tmp 2) rfl rfl ?_; (try simp only [World.size_alloc])) | (go_at_call 99; (with_reducible refine (SG _).mono ?_); rintro o w1 ⟨rfl, hb⟩; replace M := Mem.call (w0 := w0) (by repeat' (first | (with_reducible exact M) | (with_reducible apply Mem.drew) | (with_reducible apply Mem.alloc))) hb; clear hb; (try clear F); (try simp only [World.size_alloc] at M); (try simp only [heap_drew] at M); have F := Mem.facts M; simp only [MemFacts] at F; (try simp only [ApartFacts] at F)))
  (go_wp2_with (fail); refine bodyPost_ret (v := .int .u32 (c : Int)) (by simp [results, Try.results98, go_sem]) rfl ⟨rfl, (Mem.below (w0 := w0) (by repeat' (first | (with_reducible exact M) | (with_reducible apply Mem.drew) | (with_reducible apply Mem.alloc))))⟩)
set_option maxRecDepth 100000 in
set_option maxHeartbeats 2000000 in
theorem next_keep (c n cp : Nat) (i s f x o height bits first : Int) (a : Option Addr) (hc : Array Value) (w0 : World) (h66 : hc[66]? = some (.int .u32 bits)) (SG : Gives 99 #[prm c i s f x o a n cp] (.bool true))
    (hi : 0 < i) (hi2 : i ≤ 1048576) (hh2 : height ≤ 9223372036854775807) (h : height ≤ 0 ∨ (0 < height ∧ (height % i != 0) = true)) :
    Calls Try.prog 98 #[prm c i s f x o a n cp, .int .i64 height, .agg hc, .int .u32 first] w0 fun e w' => e = .returned (.int .u32 bits) ∧ Below w0.heap.size w0 w' := by
  rcases h with h | ⟨h, hm⟩
  all_goals
    have M := Mem.nil w0; have F := Mem.facts M; simp only [MemFacts] at F; (try simp only [ApartFacts] at F)
    go_enter Try.func98, Try.ntmps98
    go_wp2_with (first | (refine wl_box rfl 115 (.tmp 2) rfl rfl ?_; (try simp only [World.size_alloc])) | (go_at_call 99; (with_reducible refine (SG _).mono ?_); rintro o w1 ⟨rfl, hb⟩; replace M := Mem.call (w0 := w0) (by repeat' (first | (with_reducible exact M) | (with_reducible apply Mem.drew) | (with_reducible apply Mem.alloc))) hb; clear hb; (try clear F); (try simp only [World.size_alloc] at M); (try simp only [heap_drew] at M); have F := Mem.facts M; simp only [MemFacts] at F; (try simp only [ApartFacts] at F)))
    (go_wp2_with (fail); refine bodyPost_ret (v := .int .u32 bits) (by simp [results, Try.results98, go_sem]) rfl ⟨rfl, (Mem.below (w0 := w0) (by repeat' (first | (with_reducible exact M) | (with_reducible apply Mem.drew) | (with_reducible apply Mem.alloc))))⟩)
/-- The bits of a header. -/
def nextI (c : Nat) (i s f x o : Int) (n : Nat) (height : Int) (bits : Nat) (time first : Int) : Nat :=
  if saneB c i s f x o n = false then c else if height ≤ 0 ∨ height % i ≠ 0 then bits else scaleN bits (clampI (time - first) s).toNat s.toNat c
theorem sane_facts {c : Nat} {i s f x o : Int} {n : Nat} (h : saneB c i s f x o n = true) : badT c = false ∧ 1 ≤ i ∧ i ≤ 1048576 ∧ 4 ≤ s ∧ s ≤ 1099511627776 := by
  unfold saneB withinB boundsL at h
  simp only [Bool.and_eq_true, Bool.not_eq_true', List.all_cons, decide_eq_true_eq] at h
  exact ⟨h.1, h.2.1.1, h.2.1.2, h.2.2.1.1, h.2.2.1.2⟩
theorem clamp_bounds (a s : Int) : spanI s / 4 ≤ clampI a s ∧ clampI a s ≤ spanI s * 4 ∧ 1 ≤ spanI s / 4 ∧ 4 ≤ spanI s ∧ spanI s ≤ 1099511627776 := by
  have h1 : 4 ≤ spanI s := by unfold spanI; exact Int.le_max_left _ _
  have h2 : spanI s ≤ 1099511627776 := by unfold spanI; exact Int.max_le.2 ⟨by decide, Int.min_le_right _ _⟩
  refine ⟨?_, ?_, by omega, h1, h2⟩
  · unfold clampI
    exact Int.le_min.2 ⟨Int.le_max_right _ _, by omega⟩
  · unfold clampI
    exact Int.min_le_right _ _
theorem next_c (c : Nat) (i s f x o : Int) (a : Option Addr) (n cp : Nat) (height : Int) (hc : Array Value) (bits : Nat) (time first : Int) (hcl : c < 4294967296) (hb : bits < 4294967296) (h65 : hc[65]? = some (.int .u32 time)) (h66 : hc[66]? = some (.int .u32 (bits : Int)))
    (ht0 : 0 ≤ time) (ht : time < 4294967296) (hf0 : 0 ≤ first) (hf : first < 4294967296) (hh2 : height ≤ 9223372036854775807) :
    Gives 98 #[prm c i s f x o a n cp, .int .i64 height, .agg hc, .int .u32 first] (.int .u32 (nextI c i s f x o n height bits time first : Int)) := fun w => by
  have SG := sane_g c i s f x o a n cp hcl
  unfold nextI
  cases hq : saneB c i s f x o n with
  | false =>
    rw [hq] at SG
    rw [if_pos rfl]
    exact next_bad c n cp i s f x o height first a hc w SG
  | true =>
    rw [hq] at SG
    obtain ⟨_, g1, g2, g3, g4⟩ := sane_facts hq
    rw [if_neg (by decide)]
    by_cases h : height ≤ 0 ∨ height % i ≠ 0
    · rw [if_pos h]
      refine next_keep c n cp i s f x o height bits first a hc w h66 SG (by omega) g2 hh2 ?_
      by_cases h0 : height ≤ 0
      · exact .inl h0
      · exact .inr ⟨by omega, bne_iff_ne.2 (h.resolve_left h0)⟩
    · rw [if_neg h]
      have hh : 0 < height := by rcases Int.lt_or_le 0 height with h' | h'; exact h'; exact absurd (.inl h') h
      have hm : height % i = 0 := Classical.byContradiction fun e => h (.inr e)
      have hs : spanI s = s := by unfold spanI; rw [Int.min_eq_left g4, Int.max_eq_right g3]
      obtain ⟨k1, k2, k3, _, _⟩ := clamp_bounds (time - first) s
      rw [hs] at k1 k2 k3
      have CL := clamp_c (time - first) s (by omega) (by omega) (by omega) (by omega)
      have SC := scale_c bits (clampI (time - first) s).toNat s.toNat c hb hcl (by omega) (by omega)
      rw [show (((clampI (time - first) s).toNat : Nat) : Int) = clampI (time - first) s by omega, show ((s.toNat : Nat) : Int) = s by omega] at SC
      exact next_main c n cp i s f x o height (clampI (time - first) s) bits time first a hc true _ w h65 h66 ht0 ht hf0 hf SG CL SC (by omega) g2 (by omega) g4 (by omega) (by omega) hh hh2 hm rfl
end Go.Proofs.Ytkgjgdeaclefiaa
