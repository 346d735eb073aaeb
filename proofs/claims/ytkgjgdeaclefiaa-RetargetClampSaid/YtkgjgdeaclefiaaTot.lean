/-
  target.Total.
-/
import Derived.Test.YtkgjgdeaclefiaaTgtBack
import Derived.Test.YtkgjgdeaclefiaaNb
namespace Go.Flo
open Go Go.RowKit
@[irreducible] def at32 (l : List Nat) (j : Nat) : Int := ((l[j]?.getD 0 : Nat) : Int)
theorem at32_get {l : List Nat} {j : Nat} (h : j < l.length) : at32 l j = (l[j] : Int) := by unfold at32; simp [h]
/-- The slice v reads as these words, below block n. -/
def Rd32At (n : Nat) (w : World) (v : Value) (l : List Nat) : Prop :=
  (l = [] ∧ ∃ a cap, v = .slice a 0 cap) ∨ (0 < l.length ∧ ∃ b off cap, v = .slice (some ⟨b, off, none⟩) l.length cap ∧ b < n ∧ l.length ≤ cap ∧ ∀ j, j < l.length → w.cell? ⟨b, off + j, none⟩ = some (.int .u32 (at32 l j)))
def Rd32 (w : World) (v : Value) (l : List Nat) : Prop := Rd32At w.heap.size w v l
theorem Rd32At.below {n : Nat} {w w' : World} {v : Value} {l : List Nat} (h : Rd32At n w v l) (hb : Below n w w') : Rd32At n w' v l := by
  rcases h with h | ⟨h0, b, off, cap, hv, hlt, hc, hj⟩
  · exact .inl h
  · exact .inr ⟨h0, b, off, cap, hv, hlt, hc, fun j hjl => (hb.cell (p := ⟨b, off + j, none⟩) hlt).trans (hj j hjl)⟩
theorem Rd32.shape {w : World} {v : Value} {l : List Nat} (h : Rd32 w v l) : ∃ a c, v = .slice a l.length c := by
  rcases h with ⟨rfl, a, c, h⟩ | ⟨_, b, off, cap, h, _⟩
  · exact ⟨a, c, h⟩
  · exact ⟨_, _, h⟩
theorem Rd32.cells {w : World} {a : Option Addr} {n c : Nat} {l : List Nat} (h : Rd32 w (.slice a n c) l) (h0 : 0 < l.length) : ∃ b off, a = some ⟨b, off, none⟩ ∧ n = l.length ∧ b < w.heap.size ∧ l.length ≤ c ∧ ∀ j, j < l.length → w.cell? ⟨b, off + j, none⟩ = some (.int .u32 (at32 l j)) := by
  rcases h with ⟨rfl, _⟩ | ⟨_, b, off, cap, h, hb, hc, hj⟩
  · simp at h0
  · cases h; exact ⟨b, off, rfl, rfl, hb, hc, hj⟩
end Go.Flo
namespace Go.Proofs.Ytkgjgdeaclefiaa
open Go Go.Proofs Go.RowKit Go.Flo

theorem worklt (b : Nat) : workN b < top := by
  have hT := top_24
  unfold workN
  split
  · omega
  · rename_i h
    have hb : badT b = false := by cases hc : badT b with | false => rfl | true => exact absurd hc h
    have hne : rawT b ≠ 0 := by
      unfold badT at hb
      simp only [Bool.or_eq_false_iff, decide_eq_false_iff_not] at hb
      exact hb.2.1
    exact Nat.div_lt_self (by omega) (by omega)
/-- Works added. -/
def sumW (l : List Nat) : Nat := (l.map workN).sum
theorem sumW_snoc (l : List Nat) (b : Nat) : sumW (l ++ [b]) = sumW l + workN b := by simp [sumW]
theorem sumW_append (l m : List Nat) : sumW (l ++ m) = sumW l + sumW m := by simp [sumW]
theorem sum_step (s x : Nat) : (s % top + x) % top = (s + x) % top ∧ (decide (top ≤ s) || decide (top ≤ s % top + x)) = decide (top ≤ s + x) := by
  refine ⟨by rw [Nat.mod_add_mod], ?_⟩
  rw [Bool.eq_iff_iff]
  simp only [Bool.or_eq_true, decide_eq_true_eq]
  rcases Nat.lt_or_ge s top with h | h
  · rw [Nat.mod_eq_of_lt h]; omega
  · omega

structure TotR (l : List Nat) (w0 : World) (v k : Value) (wr : World) (t : Nat) : Prop where
  le : t ≤ l.length
  lost : v = .bool (decide (top ≤ sumW (l.take t)))
  cnt : k = .int .i64 (t : Int)
  mem : Mem w0 wr [.c (w0.heap.size + 1) #[.int .u64 (l0 (sumW (l.take t) % top)), .int .u64 (l1 (sumW (l.take t) % top)), .int .u64 (l2 (sumW (l.take t) % top)), .int .u64 (l3 (sumW (l.take t) % top))] 32, .c w0.heap.size #[.int .u64 0, .int .u64 0, .int .u64 0, .int .u64 0] 32]

set_option maxRecDepth 100000 in
set_option maxHeartbeats 4000000 in
theorem total_c (v : Value) (l : List Nat) (hl : l.length ≤ 1000) (hw : ∀ x ∈ l, x < 4294967296) (w0 : World) (hI : Rd32 w0 v l) :
    Calls Try.prog 91 #[v] w0 fun e w' => e = .returned (.tuple #[uV (sumW l % top), .bool (decide (top ≤ sumW l))]) ∧ Below w0.heap.size w0 w' := by
  obtain ⟨a, c, rfl⟩ := hI.shape
  have M := Mem.nil w0; have F := Mem.facts M; simp only [MemFacts] at F; (try simp only [ApartFacts] at F)
  go_enter Try.func91, Try.ntmps91
  go_wp2
  replace M := Mem.alloc (Mem.alloc M (cs := #[.int .u64 (0), .int .u64 (0), .int .u64 (0), .int .u64 (0)]) (t := 32)) (cs := #[.int .u64 (0), .int .u64 (0), .int .u64 (0), .int .u64 (0)]) (t := 32)
  simp only [World.size_alloc] at M
  go_loopw [5, 11] (fun v k wr => ∃ t, TotR l w0 v k wr t) (fun _ k _ => (l.length - intOf k).toNat)
  case atStart =>
    refine ⟨0, Nat.zero_le _, ?_, rfl, ?_⟩
    · rw [List.take_zero, show sumW [] = 0 from rfl, decide_eq_false (by have := top_24; omega)]
    · rw [List.take_zero, show sumW [] = 0 from rfl, Nat.zero_mod, four0]
      exact M
  case round =>
    clear M F
    obtain ⟨t, le, rfl, rfl, M⟩ := hrel
    have F := Mem.facts M; simp only [MemFacts] at F; (try simp only [ApartFacts] at F)
    rcases Nat.lt_or_ge t l.length with hlt | hge
    · obtain ⟨b, off, rfl, _, hbl, hlc, hj⟩ := hI.cells (by omega)
      have hcell := (M.below.cell (p := ⟨b, off + t, none⟩) hbl).trans (hj t hlt)
      rw [at32_get hlt] at hcell
      have hx := hw l[t] (List.getElem_mem hlt)
      have hb2 : b < wr.heap.size := Nat.lt_of_lt_of_le hbl M.size
      have htk : l.take (t + 1) = l.take t ++ [l[t]] := List.take_succ_eq_append_getElem hlt
      have hs : sumW (l.take (t + 1)) = sumW (l.take t) + workN l[t] := by rw [htk, sumW_snoc]
      have st := sum_step (sumW (l.take t)) (workN l[t])
      have W1 := work_c l[t] hx
      have A1 := add_c (sumW (l.take t) % top) (workN l[t]) (Nat.mod_lt _ (by have := top_24; omega)) (worklt l[t])
      rw [st.1, ← hs] at A1
      rw [← hs] at st
      obtain ⟨s1, hs1⟩ : ∃ s1, s1 = sumW (l.take (t + 1)) := ⟨_, rfl⟩
      rw [← hs1] at A1 st
      have HS1 := Lib.hid hs1
      clear hs htk hs1
      obtain ⟨L, hL⟩ : ∃ L, L = decide (top ≤ sumW (l.take t)) := ⟨_, rfl⟩
      obtain ⟨ov, hov⟩ : ∃ ov, ov = decide (top ≤ sumW (l.take t) % top + workN l[t]) := ⟨_, rfl⟩
      rw [← hL, ← hov] at st
      rw [← hL]
      rw [← hov] at A1
      have HS := Lib.hid st.2
      clear st hL hov
      generalize workN l[t] = wk at *
      generalize sumW (l.take t) = s0 at *
      generalize l[t] = x at *
      have hlt' : (t : Int) < (l.length : Int) := by omega
      rcases L with _ | _
      all_goals
        go_wp2
        ((try simp only [List.append_eq, List.cons_append, List.nil_append]); refine Flo.N.wp_made (by kernel_rfl) (by decide +kernel) ?_; (repeat (first | (refine Flo.N.sx_skip (by exact rfl) (by exact rfl) ?_; simp only [Act.put, List.setIfInBounds_toArray, List.set_cons_zero, List.set_cons_succ]) | (refine Flo.N.sx_pure (by exact rfl) (by exact rfl) (by exact rfl) ?_; intro K hK; go_big_quiet_op; go_big_quiet_on) | (refine Flo.N.sx_free (by exact rfl) (by exact rfl) (by exact rfl) (by exact rfl) ?_; intro K hK; go_big_quiet_op; go_big_quiet_on) | (apply Flo.N.sx_mk (by exact rfl) (by exact rfl); (focus (intro w; go_simp; first | done | exact rfl | exact ⟨rfl, rfl⟩)); intro b hn hfr; (try have hne := Flo.Fresh.ne hfr); simp only [Act.put, List.setIfInBounds_toArray, List.set_cons_zero, List.set_cons_succ]) | (apply Flo.N.sx_build _ (by exact rfl) (by exact rfl); (focus (intro w; go_simp; first | done | exact rfl | exact ⟨rfl, rfl⟩)); intro b hn hfr; (try have hne := Flo.Fresh.ne hfr); simp only [Act.put, List.setIfInBounds_toArray, List.set_cons_zero, List.set_cons_succ]) | (apply Flo.N.sx_give (by exact rfl) (by exact rfl); (focus (intro w hbW hh; apply Flo.gives_of; intro G hG; go_simp; apply hG _ _ (by kernel_rfl); clear hG G; first | (with_reducible exact W1 _) | (with_reducible exact A1 _))); simp only [Act.put, List.setIfInBounds_toArray, List.set_cons_zero, List.set_cons_succ]) | (refine Flo.N.sx_last (by exact rfl) (by exact rfl) ?_; intro w2 hJ K hK; first | (have hJ : Flo.Holds _ _ _ _ := hJ; (try have HJB := Lib.hid hJ.below); (first | (have hu1 := Flo.Holds.uncover (by exact rfl) hJ; have hu2 := Flo.Holds.uncover (by exact rfl) hu1.2; replace M := Flo.N.got2 (w0 := w0) (by repeat' (first | (with_reducible exact M) | (with_reducible apply Mem.drew) | (with_reducible apply Mem.alloc))) hJ.below hu2.1 hu1.1 hne; clear hu1 hu2) | (have hu1 := Flo.Holds.uncover (by exact rfl) hJ; replace M := Mem.got (w0 := w0) (x := .c _ _ _) (by repeat' (first | (with_reducible exact M) | (with_reducible apply Mem.drew) | (with_reducible apply Mem.alloc))) hJ.below hu1.1; clear hu1) | (replace M := Mem.call (w0 := w0) (by repeat' (first | (with_reducible exact M) | (with_reducible apply Mem.drew) | (with_reducible apply Mem.alloc))) hJ.below) | (have hB2 := hJ.below)); clear hJ; (try clear F); (try simp only [World.size_alloc] at M); (try simp only [heap_drew] at M); (try (have F := Mem.facts M; simp only [MemFacts] at F; (try simp only [ApartFacts] at F))); go_wp2_with (fail); (try refine ⟨rfl, ?_⟩)) | (have hJ : w2 = _ := hJ; subst hJ; go_wp2_with (fail); (try refine ⟨rfl, ?_⟩))))); (first | (refine Flo.N.sx_end ?_) | (refine Flo.N.sx_nil ?_; intro w2 hJ; (try have HJB := Lib.hid hJ.below); (first | (have hu1 := Flo.Holds.uncover (by exact rfl) hJ; have hu2 := Flo.Holds.uncover (by exact rfl) hu1.2; replace M := Flo.N.got2 (w0 := w0) (by repeat' (first | (with_reducible exact M) | (with_reducible apply Mem.drew) | (with_reducible apply Mem.alloc))) hJ.below hu2.1 hu1.1 hne; clear hu1 hu2) | (have hu1 := Flo.Holds.uncover (by exact rfl) hJ; replace M := Mem.got (w0 := w0) (x := .c _ _ _) (by repeat' (first | (with_reducible exact M) | (with_reducible apply Mem.drew) | (with_reducible apply Mem.alloc))) hJ.below hu1.1; clear hu1) | (replace M := Mem.call (w0 := w0) (by repeat' (first | (with_reducible exact M) | (with_reducible apply Mem.drew) | (with_reducible apply Mem.alloc))) hJ.below) | (have hB2 := hJ.below)); clear hJ; (try clear F); (try simp only [World.size_alloc] at M); (try simp only [heap_drew] at M); (try (have F := Mem.facts M; simp only [MemFacts] at F; (try simp only [ApartFacts] at F))))))
        replace M := M.put4 0 rfl (.int .u64 (l0 (s1 % top))) (.int .u64 (l1 (s1 % top))) (.int .u64 (l2 (s1 % top))) (.int .u64 (l3 (s1 % top)))
        simp only [List.set_cons_zero] at M
        ((try clear F); obtain ⟨wg, eg, M⟩ : ∃ wg, wg = _ ∧ Mem w0 wg _ := ⟨_, rfl, M⟩; (try unfold Flo.put4 at eg); rw [← eg]; clear eg; have F := Mem.facts M; simp only [MemFacts] at F; (try simp only [ApartFacts] at F))
        go_wp2
        have M2 := (M.put4 1 rfl (.int .u64 (l0 (s1 % top))) (.int .u64 (l1 (s1 % top))) (.int .u64 (l2 (s1 % top))) (.int .u64 (l3 (s1 % top)))).pick [1, 2] (by decide)
        rw [HS1.out] at M2
        refine ⟨⟨t + 1, hlt, ?_, by rw [Int.natCast_add]; rfl, ?_⟩, by simp only [intOf]; omega⟩
        · rw [← HS1.out, ← HS.out]; simp
        · rw [← HS1.out] at M2 ⊢; exact M2
    · obtain rfl : t = l.length := by omega
      rw [List.take_of_length_le (Nat.le_refl _)] at M F ⊢
      obtain ⟨s, hs⟩ : ∃ s, s = sumW l := ⟨_, rfl⟩
      rw [← hs] at M F ⊢
      have HSl := Lib.hid hs
      clear hs
      go_wp2
      rw [← HSl.out]
      have M2 := M.put4 1 rfl (.int .u64 (l0 (s % top))) (.int .u64 (l1 (s % top))) (.int .u64 (l2 (s % top))) (.int .u64 (l3 (s % top)))
      (have hc := fun j => cell_of_row _ _ j _ _ _ (M2.at 1 rfl); refine bodyPost_ret (v := .tuple #[uV (s % top), .bool (decide (top ≤ s))]) (by simp [results, Try.results91, go_sem, hc]) rfl ⟨rfl, M2.below⟩)
end Go.Proofs.Ytkgjgdeaclefiaa
