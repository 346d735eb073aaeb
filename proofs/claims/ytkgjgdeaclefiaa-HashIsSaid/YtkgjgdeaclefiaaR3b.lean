/-
  florinref03: FromNumber, Pair.
-/
import Derived.Test.YtkgjgdeaclefiaaHsh
import Derived.Test.YtkgjgdeaclefiaaShaU
namespace Go.Proofs.Ytkgjgdeaclefiaa
open Go Go.Proofs Go.RowKit Go.Flo

set_option maxRecDepth 100000 in
set_option maxHeartbeats 2000000 in
theorem rpair3_c (k l : List UInt8) (hk : k.length = 32) (hl : l.length = 32) (w0 : World) :
    Calls Try.prog 107 #[.agg (bA k), .agg (bA l)] w0 fun e w' => e = .returned (.agg (bA (dblV (k ++ l)))) ∧ Below w0.heap.size w0 w' := by
  obtain ⟨i0, HI⟩ := info8
  have h2 : (dblV (k ++ l)).length = 32 := dblV_length _
  have D1 := fun w v hv => rdouble_c v (k ++ l) (by rw [List.length_append, hk, hl]; decide) w hv
  generalize dblV (k ++ l) = p at *
  have HK := Lib.hid hk
  have HLn := Lib.hid hl
  have M := Mem.nil w0; have F := Mem.facts M; simp only [MemFacts] at F; (try simp only [ApartFacts] at F)
  go_enter Try.func107, Try.ntmps107
  go_wp2_with (first | (refine wl_box rfl 23 _ rfl rfl ?_) | (refine wl_alloc rfl 23 rfl hshZ ?_) | (at_builtin; (have hS := M.shape 0 rfl); clear hS; refine wl_append8 (w0 := w0) 0 M rfl rfl _ _ 42 rfl i0 Try.underlying42 HI.out.1 HI.out.2.1 HI.out.2.2.1 HI.out.2.2.2 rfl _ rfl l (Mem.rd8 (w0 := w0) 2 M rfl hl (by decide)) (by rw [hk, hl]; decide) ?_; clear M F; intro v2 w2 M; simp only [List.set_cons_zero] at M; have F := Mem.facts M; simp only [MemFacts] at F; (try simp only [ApartFacts] at F)) | (at_builtin; replace M := Mem.alloc (Mem.alloc (Mem.alloc M (cs := bA k) (t := 23)) (cs := bA l) (t := 23)) (cs := bA nought) (t := 23); replace M := Mem.owned (w0 := w0) 0 0 0 1 (Mem.alloc M (cs := #[]) (t := 5)) (by rfl) (by decide) (by decide) (by rfl); simp only [World.size_alloc, List.set_cons_zero] at M; refine wl_append8 (w0 := w0) 0 M rfl rfl _ _ 42 rfl i0 Try.underlying42 HI.out.1 HI.out.2.1 HI.out.2.2.1 HI.out.2.2.2 rfl _ rfl k (Mem.rd8 (w0 := w0) 3 M rfl hk (by decide)) (by rw [hk]; decide) ?_; clear M F; intro v2 w2 M; simp only [List.set_cons_zero] at M; have F := Mem.facts M; simp only [MemFacts] at F; (try simp only [ApartFacts] at F)))
  simp only [Nat.zero_add, Nat.zero_mul, List.take_zero, List.take_nil, List.nil_append] at M
  rw [show k.length + l.length = (k ++ l).length by rw [List.length_append], ← List.map_append] at M
  refine (D1 _ _ (Mem.rdOwn 0 M rfl)).mono ?_
  rintro o w1 ⟨rfl, hb⟩
  replace M := Mem.call (w0 := w0) (by repeat' (first | (with_reducible exact M) | (with_reducible apply Mem.drew) | (with_reducible apply Mem.alloc))) hb; clear hb; (try clear F); (try simp only [World.size_alloc] at M); (try simp only [heap_drew] at M); have F := Mem.facts M; simp only [MemFacts] at F; (try simp only [ApartFacts] at F)
  go_wp2_with ((refine wl_isStore 23 (.tmp 4) _ rfl ?_; refine wl_storeM (w0 := w0) rfl 23 (.tmp 4) _ rfl hshT rfl rfl 1 (by repeat' (first | (with_reducible exact M) | (with_reducible apply Mem.drew) | (with_reducible apply Mem.alloc') | (simp only [World.size_alloc]; exact rfl) | exact rfl)) (by rfl) (by first | (rw [wA_size]; exact h2) | (rw [bA_size]; exact h2) | exact h2 | exact rfl) (by first | (rw [wA_size]; exact nought_length) | (rw [bA_size]; exact nought_length) | exact nought_length | exact rfl) (by first | exact wA_one _ | exact bA_one _ | decide) ?_; clear M F; intro M; (try simp only [World.size_alloc, size_setRow] at M); (try simp only [List.set_cons_succ] at M); (try simp only [List.set_cons_zero] at M); have F := Mem.facts M; simp only [MemFacts] at F; (try simp only [ApartFacts] at F)))
  refine bodyPost_ret (results_cell_row Try.results107 _ _ _ 23 (bA p) (0, 0) _ rfl (M.at 1 rfl) hshT.under rfl (by rw [bA_size, h2]; exact hshT.size)) rfl ⟨rfl, M.below⟩

structure R3f (m g : Nat) (w0 : World) (i : Value) (wr : World) (t : Nat) : Prop where
  le : t ≤ 32
  at_ : i = .int .i64 (t : Int)
  mem : Mem w0 wr [.c (g + 1) (bA (tab 32 fun j => if j < t then byt m (31 - j) else 0)) 23, .c g (bA (bytesOf m)) 22, .c (w0.heap.size + 1) (bA nought) 23]
set_option maxRecDepth 100000 in
set_option maxHeartbeats 2000000 in
theorem rfromnumber3_c (m : Nat) (w0 : World) :
    Calls Try.prog 105 #[uV m] w0 fun e w' => e = .returned (.agg (bA (bytesOf m).reverse)) ∧ Below w0.heap.size w0 w' := by
  have hq := bytesOf_length m
  have M := Mem.nil w0; have F := Mem.facts M; simp only [MemFacts] at F; (try simp only [ApartFacts] at F)
  go_enter Try.func105, Try.ntmps105
  go_wp2_with (first | (go_at_call 82; (with_reducible refine (rbytes_c m _).mono ?_); rintro e w1 ⟨rfl, hb⟩; replace M := Mem.call (w0 := w0) (by repeat' (first | (with_reducible exact M) | (with_reducible apply Mem.drew) | (with_reducible apply Mem.alloc))) hb; clear hb; (try clear F); (try simp only [World.size_alloc] at M); (try simp only [heap_drew] at M); have F := Mem.facts M; simp only [MemFacts] at F; (try simp only [ApartFacts] at F)) | (refine wl_alloc rfl 22 rfl hashZ ?_) | (refine wl_store rfl 22 _ _ rfl hashT rfl rfl (heap_alloc_new _ _) (by rw [bA_size]; first | assumption | rfl) (by rw [bA_size]; first | assumption | rfl) (bA_one _) ?_; rw [World.setRow_alloc_new]) | (refine wl_box rfl 23 _ rfl rfl ?_) | (refine wl_alloc rfl 23 rfl hshZ ?_))
  replace M := (M.pick [0] (by decide)).alloc (cs := bA (bytesOf m)) (t := 22)
  replace M := M.alloc (cs := bA nought) (t := 23)
  simp only [World.size_alloc, List.filterMap_cons, List.getElem?_cons_zero, List.filterMap_nil] at M
  generalize w1.heap.size = g at *
  go_loopw [5] (fun i wr => ∃ t, R3f m g w0 i wr t) (fun i _ => (32 - intOf i).toNat)
  case atStart =>
    refine ⟨0, Nat.zero_le _, rfl, ?_⟩
    rw [show (tab 32 fun j => if j < 0 then byt m (31 - j) else 0) = nought from rfl]
    exact M
  case round =>
    clear M F
    obtain ⟨t, le, rfl, M⟩ := hrel
    have F := Mem.facts M; simp only [MemFacts] at F; (try simp only [ApartFacts] at F)
    rcases Nat.lt_or_ge t 32 with hlt | hge
    · obtain ⟨j, hj⟩ : ∃ j, j = 31 - t := ⟨_, rfl⟩
      have hj' : (31 : Int) - (t : Int) = (j : Int) := by omega
      have hj32 : (j : Int) < 32 := by omega
      have ht32 : (t : Int) < 32 := by omega
      have hc : (bA (bytesOf m))[j]? = some (.int .u8 ((byt m j).toNat : Int)) := by rw [bA_get (by omega), show at8 (bytesOf m) j = ((byt m j).toNat : Int) from at8_tab (by omega)]
      have hs : (bA (tab 32 fun j => if j < t then byt m (31 - j) else 0))[t]? = some (.int .u8 (at8 (tab 32 fun j => if j < t then byt m (31 - j) else 0) t)) := bA_get (by simpa using hlt)
      have HJ := Lib.hid hj
      have HM := Lib.hid M
      clear hj M
      go_wp2
      refine ⟨⟨t + 1, by omega, by simp, mem_bA HM.out fun i hi => ?_⟩, by simp only [intOf]; omega⟩
      have hj := HJ.out
      by_cases h : i = t
      · subst h; rw [if_pos rfl, if_pos (by omega), hj]
      · rw [if_neg h]
        by_cases h' : i < t
        · rw [if_pos h', if_pos (by omega)]
        · rw [if_neg h', if_neg (by omega)]
    · obtain rfl : t = 32 := by omega
      have e : (tab 32 fun j => if j < 32 then byt m (31 - j) else 0) = (bytesOf m).reverse := by
        apply List.ext_getElem
        · simp [hq]
        · intro i h1 h2
          have h1 : i < 32 := by simpa using h1
          rw [List.getElem_reverse]
          simp only [tab, bytesOf, List.getElem_map, List.getElem_range, List.length_map, List.length_range]
          rw [if_pos h1]
      rw [e] at M
      have hr : (bytesOf m).reverse.length = 32 := by rw [List.length_reverse]; exact hq
      clear F e
      have F := Mem.facts M; simp only [MemFacts] at F; (try simp only [ApartFacts] at F)
      go_wp2_with (first | (refine wl_isLoad 23 (.tmp 4) rfl ?_; refine wl_load rfl 23 (.tmp 4) rfl hshT rfl (Mem.at (w0 := w0) 0 (by repeat' (first | (with_reducible exact M) | (with_reducible apply Mem.drew) | (with_reducible apply Mem.alloc') | (simp only [World.size_alloc]; exact rfl) | exact rfl)) (by rfl)) (by first | (rw [wA_size]; exact hr) | (rw [bA_size]; exact hr) | exact hr | exact rfl) ?_) | (refine wl_isStore 23 (.tmp 2) _ rfl ?_; refine wl_storeM (w0 := w0) rfl 23 (.tmp 2) _ rfl hshT rfl rfl 2 (by repeat' (first | (with_reducible exact M) | (with_reducible apply Mem.drew) | (with_reducible apply Mem.alloc') | (simp only [World.size_alloc]; exact rfl) | exact rfl)) (by rfl) (by first | (rw [wA_size]; exact hr) | (rw [bA_size]; exact hr) | exact hr | exact rfl) (by first | (rw [wA_size]; exact nought_length) | (rw [bA_size]; exact nought_length) | exact nought_length | exact rfl) (by first | exact wA_one _ | exact bA_one _ | decide) ?_; clear M F; intro M; (try simp only [World.size_alloc, size_setRow] at M); (try simp only [List.set_cons_succ] at M); (try simp only [List.set_cons_zero] at M); have F := Mem.facts M; simp only [MemFacts] at F; (try simp only [ApartFacts] at F)))
      refine bodyPost_ret (results_cell_row Try.results105 _ _ _ 23 (bA (bytesOf m).reverse) (0, 0) _ rfl (M.at 2 rfl) hshT.under rfl (by rw [bA_size, hr]; exact hshT.size)) rfl ⟨rfl, M.below⟩
end Go.Proofs.Ytkgjgdeaclefiaa
