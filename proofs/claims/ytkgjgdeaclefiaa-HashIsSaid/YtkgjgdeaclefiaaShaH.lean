/-
  sha2.End, Sum, Double.
-/
import Derived.Test.YtkgjgdeaclefiaaShaG
import Derived.Test.YtkgjgdeaclefiaaHsh
import Derived.Deep.RegionWith
namespace Go.Proofs.Ytkgjgdeaclefiaa
open Go Go.Proofs Go.RowKit Go.Flo

/-- What stands when t bytes of a hash have come. -/
def outP (h : List UInt32) (t : Nat) : List UInt8 := tab 32 fun i => if i < t then byteV (h.getD (i / 4) 0).toNat (3 - i % 4) else 0
theorem outP_zero (h : List UInt32) : outP h 0 = nought := rfl
theorem outP_end (h : List UInt32) : outP h 32 = outV h := by
  unfold outP outV
  exact tab_congr fun i hi => if_pos hi
theorem out_byte (x : UInt32) (j : Nat) : (x.toNat : Int) / 2 ^ (j * 8) % 256 = ((byteV x.toNat j).toNat : Int) := by
  unfold byteV
  rw [UInt8.toNat_ofNat', Nat.mul_comm j 8, Int.natCast_emod, Int.natCast_ediv, Int.natCast_pow]
  rfl
theorem outP_next (h : List UInt32) (t : Nat) (ht : t < 32) : (bA (outP h t)).setIfInBounds t (.int .u8 ((byteV (h.getD (t / 4) 0).toNat (3 - t % 4)).toNat : Int)) = bA (outP h (t + 1)) := by
  unfold outP
  rw [bA_tab_set]
  congr 1
  refine tab_congr fun i hi => ?_
  by_cases h1 : i = t
  · subst h1; rw [if_pos rfl, if_pos (by omega)]
  · rw [if_neg h1]
    by_cases h2 : i < t
    · rw [if_pos h2, if_pos (by omega)]
    · rw [if_neg h2, if_neg (by omega)]
theorem outP_length (h : List UInt32) (t : Nat) : (outP h t).length = 32 := by unfold outP; rw [tab_length]
structure EndR (a b c d e f g k : UInt32) (v : Value) (n : Nat) (b1 b2 b3 : Nat) (w0 : World) (i : Value) (wr : World) (t : Nat) : Prop where
  le : t ≤ 32
  at_ : i = .int .i64 (t : Int)
  mem : Mem w0 wr [.c b3 (bA (outP [a, b, c, d, e, f, g, k] t)) 23, .c b2 (bA nought) 23,
      .c b1 #[.int .u32 (a.toNat : Int), .int .u32 (b.toNat : Int), .int .u32 (c.toNat : Int), .int .u32 (d.toNat : Int), .int .u32 (e.toNat : Int), .int .u32 (f.toNat : Int), .int .u32 (g.toNat : Int), .int .u32 (k.toNat : Int), v, .int .u64 (n : Int)] 46]
set_option maxRecDepth 100000 in
set_option maxHeartbeats 4000000 in
theorem end_main (x0 x1 x2 x3 x4 x5 x6 x7 a b c d e f g k : UInt32) (xv v : Value) (xn n : Nat) (q : Bool) (rest : List UInt8) (r : ShaS) (w0 : World)
    (SC : ∀ w, Below w0.heap.size w0 w → Calls Try.prog 46 #[st10 x0 x1 x2 x3 x4 x5 x6 x7 xv xn] w fun e w' => e = .returned (.bool q) ∧ Below w.heap.size w w')
    (h : (q = true ∧ a = x0 ∧ b = x1 ∧ c = x2 ∧ d = x3 ∧ e = x4 ∧ f = x5 ∧ g = x6 ∧ k = x7 ∧ v = xv ∧ n = xn) ∨ (q = false ∧ Gives 41 #[] (st10 a b c d e f g k v n)))
    (hR : Rd8 w0 v rest)
    (PC : ∀ w, Calls Try.prog 47 #[.int .u64 (n : Int)] w fun e w' => ∃ p, e = .returned p ∧ Rd8 w' p (padV n) ∧ Below w.heap.size w w')
    (WC : ∀ w p, Below w0.heap.size w0 w → Rd8 w p (padV n) → Calls Try.prog 40 #[st10 a b c d e f g k v n, p] w fun o w' => ∃ V', o = .returned V' ∧ RdS w' V' r ∧ Below w.heap.size w w') :
    Calls Try.prog 42 #[st10 x0 x1 x2 x3 x4 x5 x6 x7 xv xn] w0 fun o w' => o = .returned (.agg (bA (outV r.h))) ∧ Below w0.heap.size w0 w' := by
  obtain ⟨pv, cv, rfl⟩ := hR.shape
  clear hR
  rcases h with ⟨rfl, rfl, rfl, rfl, rfl, rfl, rfl, rfl, rfl, rfl, rfl⟩ | ⟨rfl, ST⟩
  focus
    have M := Mem.nil w0; have F := Mem.facts M; simp only [MemFacts] at F; (try simp only [ApartFacts] at F)
    go_enter Try.func42, Try.ntmps42
    go_wp2_with (first | (refine wl_box rfl 23 _ rfl rfl ?_) | (refine wl_alloc rfl 23 rfl hshZ ?_) | (go_at_call 46; refine (SC _ (Mem.below (w0 := w0) (by repeat' (first | (with_reducible exact M) | (with_reducible apply Mem.drew) | (with_reducible apply Mem.alloc') | (simp only [World.size_alloc]; exact rfl) | exact rfl)))).mono ?_; rintro o w1 ⟨rfl, hb⟩; replace M := Mem.call (w0 := w0) (by repeat' (first | (with_reducible exact M) | (with_reducible apply Mem.drew) | (with_reducible apply Mem.alloc))) hb; clear hb; (try clear F); (try simp only [World.size_alloc] at M); (try simp only [heap_drew] at M); have F := Mem.facts M; simp only [MemFacts] at F; (try simp only [ApartFacts] at F)))
    clear SC
    ((try clear F); obtain ⟨wg, eg, M⟩ : ∃ wg, wg = _ ∧ Mem w0 wg _ := ⟨_, rfl, M⟩; (try unfold Flo.put4 at eg); rw [← eg]; clear eg; have F := Mem.facts M; simp only [MemFacts] at F; (try simp only [ApartFacts] at F))
  rotate_left
  focus
    have M := Mem.nil w0; have F := Mem.facts M; simp only [MemFacts] at F; (try simp only [ApartFacts] at F)
    go_enter Try.func42, Try.ntmps42
    go_wp2_with (first | (refine wl_box rfl 23 _ rfl rfl ?_) | (refine wl_alloc rfl 23 rfl hshZ ?_) | (go_at_call 46; refine (SC _ (Mem.below (w0 := w0) (by repeat' (first | (with_reducible exact M) | (with_reducible apply Mem.drew) | (with_reducible apply Mem.alloc') | (simp only [World.size_alloc]; exact rfl) | exact rfl)))).mono ?_; rintro o w1 ⟨rfl, hb⟩; replace M := Mem.call (w0 := w0) (by repeat' (first | (with_reducible exact M) | (with_reducible apply Mem.drew) | (with_reducible apply Mem.alloc))) hb; clear hb; (try clear F); (try simp only [World.size_alloc] at M); (try simp only [heap_drew] at M); have F := Mem.facts M; simp only [MemFacts] at F; (try simp only [ApartFacts] at F)) | (go_at_call 41; refine (ST _).mono ?_; rintro o w1 ⟨rfl, hb⟩; replace M := Mem.call (w0 := w0) (by repeat' (first | (with_reducible exact M) | (with_reducible apply Mem.drew) | (with_reducible apply Mem.alloc))) hb; clear hb; (try clear F); (try simp only [World.size_alloc] at M); (try simp only [heap_drew] at M); have F := Mem.facts M; simp only [MemFacts] at F; (try simp only [ApartFacts] at F)))
    replace M := M.put10 1 rfl (.int .u32 (a.toNat : Int)) (.int .u32 (b.toNat : Int)) (.int .u32 (c.toNat : Int)) (.int .u32 (d.toNat : Int)) (.int .u32 (e.toNat : Int)) (.int .u32 (f.toNat : Int)) (.int .u32 (g.toNat : Int)) (.int .u32 (k.toNat : Int)) (.slice pv rest.length cv) (.int .u64 (n : Int))
    simp only [List.set_cons_succ, List.set_cons_zero] at M
    clear SC ST
    ((try clear F); obtain ⟨wg, eg, M⟩ : ∃ wg, wg = _ ∧ Mem w0 wg _ := ⟨_, rfl, M⟩; (try unfold Flo.put10 at eg); rw [← eg]; clear eg; have F := Mem.facts M; simp only [MemFacts] at F; (try simp only [ApartFacts] at F))
  all_goals
    go_region_with (first | (go_at_call 47; (refine (PC _).mono ?_); rintro o w2 ⟨pd, rfl, hp, hb⟩; replace M := Mem.call (w0 := w0) (by repeat' (first | (with_reducible exact M) | (with_reducible apply Mem.drew) | (with_reducible apply Mem.alloc))) hb; clear hb; (try clear F); (try simp only [World.size_alloc] at M); (try simp only [heap_drew] at M); have F := Mem.facts M; simp only [MemFacts] at F; (try simp only [ApartFacts] at F)) | (go_at_call 40; (refine (WC _ pd (Mem.below (w0 := w0) (by repeat' (first | (with_reducible exact M) | (with_reducible apply Mem.drew) | (with_reducible apply Mem.alloc)))) hp).mono ?_); rintro o w3 ⟨V2, rfl, hV2, hb⟩; replace M := Mem.call (w0 := w0) (by repeat' (first | (with_reducible exact M) | (with_reducible apply Mem.drew) | (with_reducible apply Mem.alloc))) hb; clear hb; (try clear F); (try simp only [World.size_alloc] at M); (try simp only [heap_drew] at M); have F := Mem.facts M; simp only [MemFacts] at F; (try simp only [ApartFacts] at F); obtain ⟨⟨a2, b2, c2, d2, e2, f2, g2, k2, v2, rfl, hs2, hr2⟩, hn2, hl2⟩ := hV2; obtain ⟨p2, c3, rfl⟩ := hr2.shape; clear hr2))
  all_goals
    replace M := M.put10 1 rfl (.int .u32 (a2.toNat : Int)) (.int .u32 (b2.toNat : Int)) (.int .u32 (c2.toNat : Int)) (.int .u32 (d2.toNat : Int)) (.int .u32 (e2.toNat : Int)) (.int .u32 (f2.toNat : Int)) (.int .u32 (g2.toNat : Int)) (.int .u32 (k2.toNat : Int)) (.slice p2 r.rest.length c3) (.int .u64 (r.n : Int))
    simp only [List.set_cons_succ, List.set_cons_zero] at M
    have HS2 := Lib.hid hs2
    generalize r.rest.length = rl at *
    generalize r.n = rn at *
    clear PC WC hp hs2 hn2 hl2
    ((try clear F); obtain ⟨wg, eg, M⟩ : ∃ wg, wg = _ ∧ Mem w0 wg _ := ⟨_, rfl, M⟩; (try unfold Flo.put10 at eg); rw [← eg]; clear eg; have F := Mem.facts M; simp only [MemFacts] at F; (try simp only [ApartFacts] at F))
    go_wp2_with (first | (refine wl_box rfl 23 _ rfl rfl ?_) | (refine wl_alloc rfl 23 rfl hshZ ?_))
    replace M := Mem.alloc M (cs := bA nought) (t := 23)
    clear F
    obtain ⟨b3, hb3⟩ : ∃ b3, b3 = wg.heap.size := ⟨_, rfl⟩
    rw [← hb3] at M ⊢
    clear hb3
    ((try clear F); obtain ⟨wg, eg, M⟩ : ∃ wg, wg = _ ∧ Mem w0 wg _ := ⟨_, rfl, M⟩; (try unfold Flo.put4 at eg); rw [← eg]; clear eg; have F := Mem.facts M; simp only [MemFacts] at F; (try simp only [ApartFacts] at F))
    go_loopw [14] (fun i wr => ∃ t, EndR a2 b2 c2 d2 e2 f2 g2 k2 (.slice p2 rl c3) rn w0.heap.size (w0.heap.size + 1) b3 w0 i wr t) (fun i _ => (32 - intOf i).toNat)
    case atStart => exact ⟨0, by decide, rfl, M⟩
    case round =>
      clear M F
      obtain ⟨t, le, rfl, M⟩ := hrel
      rcases Nat.lt_or_ge t 32 with hlt | hge
      · have hq : (t / 4 = 0 ∧ (t : Int) / 4 = 0) ∨ (t / 4 = 1 ∧ (t : Int) / 4 = 1) ∨ (t / 4 = 2 ∧ (t : Int) / 4 = 2) ∨ (t / 4 = 3 ∧ (t : Int) / 4 = 3) ∨ (t / 4 = 4 ∧ (t : Int) / 4 = 4) ∨ (t / 4 = 5 ∧ (t : Int) / 4 = 5) ∨ (t / 4 = 6 ∧ (t : Int) / 4 = 6) ∨ (t / 4 = 7 ∧ (t : Int) / 4 = 7) := by omega
        have hn := outP_next [a2, b2, c2, d2, e2, f2, g2, k2] t hlt
        have hd := bA_get (l := outP [a2, b2, c2, d2, e2, f2, g2, k2] t) (j := t) (by unfold outP; rw [tab_length]; exact hlt)
        have hlt' : (t : Int) < 32 := by omega
        have F := Mem.facts M; simp only [MemFacts] at F; (try simp only [ApartFacts] at F)
        rcases hq with ⟨hq, hqi⟩ | ⟨hq, hqi⟩ | ⟨hq, hqi⟩ | ⟨hq, hqi⟩ | ⟨hq, hqi⟩ | ⟨hq, hqi⟩ | ⟨hq, hqi⟩ | ⟨hq, hqi⟩
        all_goals
          rw [hq] at hn
          simp only [List.getD_cons_zero, List.getD_cons_succ] at hn
          have HN := Lib.hid hn
          have HQ := Lib.hid hq
          clear hn hq
          go_wp2
          refine ⟨⟨t + 1, by omega, by simp, ?_⟩, by simp only [intOf]; omega⟩
          rw [out_byte, ← HN.out]
          exact M.put 0 rfl t _
      · obtain rfl : t = 32 := by omega
        have hl := outP_length [a2, b2, c2, d2, e2, f2, g2, k2] 32
        have F := Mem.facts M; simp only [MemFacts] at F; (try simp only [ApartFacts] at F)
        go_wp2_with (first | (refine wl_isLoad 23 (.tmp 3) rfl ?_; refine wl_load rfl 23 (.tmp 3) rfl hshT rfl (Mem.at (w0 := w0) 0 (by repeat' (first | (with_reducible exact M) | (with_reducible apply Mem.drew) | (with_reducible apply Mem.alloc') | (simp only [World.size_alloc]; exact rfl) | exact rfl)) (by rfl)) (by first | (rw [wA_size]; exact hl) | (rw [bA_size]; exact hl) | exact hl | exact rfl) ?_) | (refine wl_isStore 23 (.tmp 2) _ rfl ?_; refine wl_storeM (w0 := w0) rfl 23 (.tmp 2) _ rfl hshT rfl rfl 1 (by repeat' (first | (with_reducible exact M) | (with_reducible apply Mem.drew) | (with_reducible apply Mem.alloc') | (simp only [World.size_alloc]; exact rfl) | exact rfl)) (by rfl) (by first | (rw [wA_size]; exact hl) | (rw [bA_size]; exact hl) | exact hl | exact rfl) (by first | (rw [wA_size]; exact nought_length) | (rw [bA_size]; exact nought_length) | exact nought_length | exact rfl) (by first | exact wA_one _ | exact bA_one _ | decide) ?_; clear M F; intro M; (try simp only [World.size_alloc, size_setRow] at M); (try simp only [List.set_cons_succ] at M); (try simp only [List.set_cons_zero] at M); have F := Mem.facts M; simp only [MemFacts] at F; (try simp only [ApartFacts] at F)))
        rw [HS2.out, ← outP_end]
        refine bodyPost_ret (results_cell_row Try.results42 _ _ _ 23 (bA (outP [a2, b2, c2, d2, e2, f2, g2, k2] 32)) (0, 0) _ rfl (M.at 1 rfl) hshT.under rfl (by rw [bA_size, hl]; exact hshT.size)) rfl ⟨rfl, M.below⟩
theorem padV_length (n : Nat) : (padV n).length ≤ 1000000 := by
  unfold padV
  rw [List.length_cons, List.length_append, List.length_replicate, tailV_length]
  unfold zerosN
  omega
set_option maxRecDepth 100000 in
theorem end_c (V : Value) (s : ShaS) (w0 : World) (hV : RdS w0 V s) :
    Calls Try.prog 42 #[V] w0 fun o w' => o = .returned (.agg (bA (endS s))) ∧ Below w0.heap.size w0 w' := by
  have SC := fun w (hb : Below w0.heap.size w0 w) => sane_c V s w (hV.below hb)
  obtain ⟨⟨a, b, c, d, e, f, g, k, v, rfl, hs, hr⟩, hn, hl⟩ := hV
  unfold endS
  cases hq : saneS s with
  | true =>
    have hf : fixS s = s := by unfold fixS; rw [if_pos hq]
    rw [hf]
    rw [hq] at SC
    refine end_main a b c d e f g k a b c d e f g k v v s.n s.n true s.rest _ w0 SC (.inl ⟨rfl, rfl, rfl, rfl, rfl, rfl, rfl, rfl, rfl, rfl, rfl⟩) hr (fun w => pad_c s.n hn w) fun w p hb hp => ?_
    exact write_c _ p s (padV s.n) (padV_length _) w ⟨⟨a, b, c, d, e, f, g, k, v, rfl, hs, hr.below hb⟩, hn, hl⟩ hp
  | false =>
    have hf : fixS s = startS := by unfold fixS; rw [if_neg (by rw [hq]; decide)]
    rw [hf]
    rw [hq] at SC
    refine end_main a b c d e f g k _ _ _ _ _ _ _ _ v (.slice none 0 0) s.n 0 false [] _ w0 SC (.inr ⟨rfl, start_c⟩) (rd8_nil _ _ _) (fun w => pad_c 0 (by decide) w) fun w p hb hp => ?_
    exact write_c startC p startS (padV 0) (padV_length _) w (rdS_start w) hp
end Go.Proofs.Ytkgjgdeaclefiaa
