/-
  florinref02: End, Sum, Double.
-/
import Derived.Test.YtkgjgdeaclefiaaShaS
import Derived.Test.YtkgjgdeaclefiaaShaI
namespace Go.Flo
open Go Go.RowKit
theorem Mem.nameHead {w0 w : World} {b : Nat} {cs : Array Value} {t : TypeId} {l : List It} (h : Mem w0 w (.c b cs t :: l)) : ∃ b', b' = b ∧ Mem w0 w (.c b' cs t :: l) := ⟨b, rfl, h⟩
end Go.Flo
namespace Go.Proofs.Ytkgjgdeaclefiaa
open Go Go.Proofs Go.RowKit Go.Flo

structure REnd1 (a b c d e f g k : UInt32) (v : Value) (n : Nat) (st : Array Value) (b1 b2 b3 b4 : Nat) (w0 : World) (i : Value) (wr : World) (t : Nat) : Prop where
  le : t ≤ 8
  at_ : i = .int .i64 (t : Int)
  mem : Mem w0 wr [.c b4 (bA (outP [a, b, c, d, e, f, g, k] (4 * t))) 23, .c b3 #[.int .u32 (a.toNat : Int), .int .u32 (b.toNat : Int), .int .u32 (c.toNat : Int), .int .u32 (d.toNat : Int), .int .u32 (e.toNat : Int), .int .u32 (f.toNat : Int), .int .u32 (g.toNat : Int), .int .u32 (k.toNat : Int), v, .int .u64 (n : Int)] 52,
      .c b2 (bA nought) 23, .c b1 st 52]
structure REnd2 (a b c d e f g k : UInt32) (v : Value) (n : Nat) (st : Array Value) (b1 b2 b3 b4 : Nat) (w0 : World) (i : Nat) (j : Value) (wr : World) (t : Nat) : Prop where
  le : t ≤ 4
  at_ : j = .int .i64 (t : Int)
  mem : Mem w0 wr [.c b4 (bA (outP [a, b, c, d, e, f, g, k] (4 * i + t))) 23, .c b3 #[.int .u32 (a.toNat : Int), .int .u32 (b.toNat : Int), .int .u32 (c.toNat : Int), .int .u32 (d.toNat : Int), .int .u32 (e.toNat : Int), .int .u32 (f.toNat : Int), .int .u32 (g.toNat : Int), .int .u32 (k.toNat : Int), v, .int .u64 (n : Int)] 52,
      .c b2 (bA nought) 23, .c b1 st 52]
set_option maxRecDepth 100000 in
set_option maxHeartbeats 8000000 in
theorem rend_main (x0 x1 x2 x3 x4 x5 x6 x7 a b c d e f g k : UInt32) (xv v : Value) (xn n : Nat) (q : Bool) (rest : List UInt8) (r : ShaS) (w0 : World)
    (SC : ∀ w, Below w0.heap.size w0 w → Calls Try.prog 57 #[st10 x0 x1 x2 x3 x4 x5 x6 x7 xv xn] w fun e w' => e = .returned (.bool q) ∧ Below w.heap.size w w')
    (h : (q = true ∧ a = x0 ∧ b = x1 ∧ c = x2 ∧ d = x3 ∧ e = x4 ∧ f = x5 ∧ g = x6 ∧ k = x7 ∧ v = xv ∧ n = xn) ∨ (q = false ∧ Gives 58 #[] (st10 a b c d e f g k v n)))
    (hR : Rd8 w0 v rest)
    (PC : ∀ w, Calls Try.prog 56 #[.int .u64 (n : Int)] w fun e w' => ∃ p, e = .returned p ∧ Rd8 w' p (padV n) ∧ Below w.heap.size w w')
    (WC : ∀ w p, Below w0.heap.size w0 w → Rd8 w p (padV n) → Calls Try.prog 53 #[st10 a b c d e f g k v n, p] w fun o w' => ∃ V', o = .returned V' ∧ RdS w' V' r ∧ Below w.heap.size w w') :
    Calls Try.prog 54 #[st10 x0 x1 x2 x3 x4 x5 x6 x7 xv xn] w0 fun o w' => o = .returned (.agg (bA (outV r.h))) ∧ Below w0.heap.size w0 w' := by
  obtain ⟨pv, cv, rfl⟩ := hR.shape
  clear hR
  rcases h with ⟨rfl, rfl, rfl, rfl, rfl, rfl, rfl, rfl, rfl, rfl, rfl⟩ | ⟨rfl, ST⟩
  focus
    have M := Mem.nil w0; have F := Mem.facts M; simp only [MemFacts] at F; (try simp only [ApartFacts] at F)
    go_enter Try.func54, Try.ntmps54
    go_wp2_with (first | (refine wl_box rfl 23 _ rfl rfl ?_) | (refine wl_alloc rfl 23 rfl hshZ ?_) | (go_at_call 57; refine (SC _ (Mem.below (w0 := w0) (by repeat' (first | (with_reducible exact M) | (with_reducible apply Mem.drew) | (with_reducible apply Mem.alloc') | (simp only [World.size_alloc]; exact rfl) | exact rfl)))).mono ?_; rintro o w1 ⟨rfl, hb⟩; replace M := Mem.call (w0 := w0) (by repeat' (first | (with_reducible exact M) | (with_reducible apply Mem.drew) | (with_reducible apply Mem.alloc))) hb; clear hb; (try clear F); (try simp only [World.size_alloc] at M); (try simp only [heap_drew] at M); have F := Mem.facts M; simp only [MemFacts] at F; (try simp only [ApartFacts] at F)))
    clear SC
    ((try clear F); obtain ⟨wg, eg, M⟩ : ∃ wg, wg = _ ∧ Mem w0 wg _ := ⟨_, rfl, M⟩; (try unfold Flo.put4 at eg); rw [← eg]; clear eg; have F := Mem.facts M; simp only [MemFacts] at F; (try simp only [ApartFacts] at F))
  rotate_left
  focus
    have M := Mem.nil w0; have F := Mem.facts M; simp only [MemFacts] at F; (try simp only [ApartFacts] at F)
    go_enter Try.func54, Try.ntmps54
    go_wp2_with (first | (refine wl_box rfl 23 _ rfl rfl ?_) | (refine wl_alloc rfl 23 rfl hshZ ?_) | (go_at_call 57; refine (SC _ (Mem.below (w0 := w0) (by repeat' (first | (with_reducible exact M) | (with_reducible apply Mem.drew) | (with_reducible apply Mem.alloc') | (simp only [World.size_alloc]; exact rfl) | exact rfl)))).mono ?_; rintro o w1 ⟨rfl, hb⟩; replace M := Mem.call (w0 := w0) (by repeat' (first | (with_reducible exact M) | (with_reducible apply Mem.drew) | (with_reducible apply Mem.alloc))) hb; clear hb; (try clear F); (try simp only [World.size_alloc] at M); (try simp only [heap_drew] at M); have F := Mem.facts M; simp only [MemFacts] at F; (try simp only [ApartFacts] at F)) | (go_at_call 58; refine (ST _).mono ?_; rintro o w1 ⟨rfl, hb⟩; replace M := Mem.call (w0 := w0) (by repeat' (first | (with_reducible exact M) | (with_reducible apply Mem.drew) | (with_reducible apply Mem.alloc))) hb; clear hb; (try clear F); (try simp only [World.size_alloc] at M); (try simp only [heap_drew] at M); have F := Mem.facts M; simp only [MemFacts] at F; (try simp only [ApartFacts] at F)))
    replace M := M.put10 1 rfl (.int .u32 (a.toNat : Int)) (.int .u32 (b.toNat : Int)) (.int .u32 (c.toNat : Int)) (.int .u32 (d.toNat : Int)) (.int .u32 (e.toNat : Int)) (.int .u32 (f.toNat : Int)) (.int .u32 (g.toNat : Int)) (.int .u32 (k.toNat : Int)) (.slice pv rest.length cv) (.int .u64 (n : Int))
    simp only [List.set_cons_succ, List.set_cons_zero] at M
    clear SC ST
    ((try clear F); obtain ⟨wg, eg, M⟩ : ∃ wg, wg = _ ∧ Mem w0 wg _ := ⟨_, rfl, M⟩; (try unfold Flo.put10 at eg); rw [← eg]; clear eg; have F := Mem.facts M; simp only [MemFacts] at F; (try simp only [ApartFacts] at F))
  all_goals
    obtain ⟨R, hR⟩ : ∃ R : Act → World → Prop, R = fun fr w => ∃ (b3 : Nat) (u0 u7 u8 u9 u10 u11 u12 u13 u14 u15 : Value) (a2 b2 c2 d2 e2 f2 g2 k2 : UInt32) (p2 : Option Addr) (rl c3 rn : Nat) (st : Array Value), fr = { tmps := #[u0, .pointer (some ⟨w0.heap.size, 0, none⟩), .pointer (some ⟨w0.heap.size + 1, 0, none⟩), .pointer (some ⟨b3, 0, none⟩), undef, undef, undef, u7, u8, u9, u10, u11, u12, u13, u14, u15, undef, undef, undef, undef, undef, undef, undef, undef, undef, undef, undef, undef, undef, undef, undef, undef, undef, undef, undef, undef, undef, undef, undef, undef], defers := [] } ∧ r.h = [a2, b2, c2, d2, e2, f2, g2, k2] ∧
      Mem w0 w [.c b3 #[.int .u32 (a2.toNat : Int), .int .u32 (b2.toNat : Int), .int .u32 (c2.toNat : Int), .int .u32 (d2.toNat : Int), .int .u32 (e2.toNat : Int), .int .u32 (f2.toNat : Int), .int .u32 (g2.toNat : Int), .int .u32 (k2.toNat : Int), .slice p2 rl c3, .int .u64 (rn : Int)] 52, .c (w0.heap.size + 1) (bA nought) 23, .c w0.heap.size st 52] := ⟨_, rfl⟩
    have HRR := Lib.hid hR
    clear hR
    refine Code.wp_mono (Q := Exit.then R fun _ _ _ => False) ?_ ?_
    rotate_left
    focus
      go_region_with (first | (go_at_call 56; (refine (PC _).mono ?_); rintro o w2 ⟨pd, rfl, hp, hb⟩; replace M := Mem.call (w0 := w0) (by repeat' (first | (with_reducible exact M) | (with_reducible apply Mem.drew) | (with_reducible apply Mem.alloc))) hb; clear hb; (try clear F); (try simp only [World.size_alloc] at M); (try simp only [heap_drew] at M); have F := Mem.facts M; simp only [MemFacts] at F; (try simp only [ApartFacts] at F)) | (go_at_call 53; (refine (WC _ pd (Mem.below (w0 := w0) (by repeat' (first | (with_reducible exact M) | (with_reducible apply Mem.drew) | (with_reducible apply Mem.alloc)))) (hp.below (by repeat' (first | (with_reducible exact Below.refl _ _) | (with_reducible assumption) | (with_reducible refine Below.drew ?_) | (with_reducible refine Below.alloc ?_ ?_ _) | (with_reducible refine Below.setCell ?_ ?_ _) | (with_reducible refine Flo.below_step ?_ (by assumption)) | (simp; done) | (simp; omega))))).mono ?_); rintro o w3 ⟨V2, rfl, hV2, hb⟩; replace M := Mem.call (w0 := w0) (by repeat' (first | (with_reducible exact M) | (with_reducible apply Mem.drew) | (with_reducible apply Mem.alloc))) hb; clear hb; (try clear F); (try simp only [World.size_alloc] at M); (try simp only [heap_drew] at M); have F := Mem.facts M; simp only [MemFacts] at F; (try simp only [ApartFacts] at F); obtain ⟨⟨a2, b2, c2, d2, e2, f2, g2, k2, v2, rfl, hs2, hr2⟩, hn2, hl2⟩ := hV2; obtain ⟨p2, c3, rfl⟩ := hr2.shape; clear hr2))
      all_goals
        show R _ _
        rw [HRR.out]
        refine ⟨_, _, _, _, _, _, _, _, _, _, _, a2, b2, c2, d2, e2, f2, g2, k2, p2, r.rest.length, c3, r.n, #[.int .u32 (a.toNat : Int), .int .u32 (b.toNat : Int), .int .u32 (c.toNat : Int), .int .u32 (d.toNat : Int), .int .u32 (e.toNat : Int), .int .u32 (f.toNat : Int), .int .u32 (g.toNat : Int), .int .u32 (k.toNat : Int), .slice pv rest.length cv, .int .u64 (n : Int)], rfl, hs2, ?_⟩
        first | (with_reducible exact Mem.alloc M) | exact M.put10 0 rfl (.int .u32 (a2.toNat : Int)) (.int .u32 (b2.toNat : Int)) (.int .u32 (c2.toNat : Int)) (.int .u32 (d2.toNat : Int)) (.int .u32 (e2.toNat : Int)) (.int .u32 (f2.toNat : Int)) (.int .u32 (g2.toNat : Int)) (.int .u32 (k2.toNat : Int)) (.slice p2 r.rest.length c3) (.int .u64 (r.n : Int))
    intro e fr w hh
    obtain rfl : e = Exit.normal := by
      cases e <;> first | rfl | exact (show False from hh).elim
    have hh : R fr w := hh
    rw [HRR.out] at hh
    clear HRR
    obtain ⟨b3, u0, u7, u8, u9, u10, u11, u12, u13, u14, u15, a2, b2, c2, d2, e2, f2, g2, k2, p2, rl, c3, rn, st, rfl, hs2, M⟩ := hh
    have HS2 := Lib.hid hs2
    clear PC WC hs2
    have F := Mem.facts M; simp only [MemFacts] at F; (try simp only [ApartFacts] at F)
    go_wp2_with (first | (refine wl_box rfl 23 _ rfl rfl ?_) | (refine wl_alloc rfl 23 rfl hshZ ?_))
    replace M := Mem.alloc M (cs := bA nought) (t := 23)
    obtain ⟨b4, hb4, M⟩ := M.nameHead
    rw [← hb4]
    clear hb4
    ((try clear F); obtain ⟨wg, eg, M⟩ : ∃ wg, wg = _ ∧ Mem w0 wg _ := ⟨_, rfl, M⟩; (try unfold Flo.put4 at eg); rw [← eg]; clear eg; have F := Mem.facts M; simp only [MemFacts] at F; (try simp only [ApartFacts] at F))
    go_loopw [5] (fun i wr => ∃ t, REnd1 a2 b2 c2 d2 e2 f2 g2 k2 (.slice p2 rl c3) rn st w0.heap.size (w0.heap.size + 1) b3 b4 w0 i wr t) (fun i _ => (8 - intOf i).toNat)
    case atStart => exact ⟨0, by decide, rfl, M⟩
    case round =>
      clear M F
      obtain ⟨t, le, rfl, M⟩ := hrel
      have F := Mem.facts M; simp only [MemFacts] at F; (try simp only [ApartFacts] at F)
      rcases Nat.lt_or_ge t 8 with hlt | hge
      · have hlt' : (t : Int) < 8 := by omega
        go_wp2
        go_loopw [6] (fun j wr => ∃ s, REnd2 a2 b2 c2 d2 e2 f2 g2 k2 (.slice p2 rl c3) rn st w0.heap.size (w0.heap.size + 1) b3 b4 w0 t j wr s) (fun j _ => (4 - intOf j).toNat)
        case atStart => exact ⟨0, by decide, rfl, M⟩
        case round =>
          clear M F
          obtain ⟨s, le2, rfl, M⟩ := hrel
          have F := Mem.facts M; simp only [MemFacts] at F; (try simp only [ApartFacts] at F)
          rcases Nat.lt_or_ge s 4 with hlt2 | hge2
          · have hlt2' : (s : Int) < 4 := by omega
            have hn := outP_next [a2, b2, c2, d2, e2, f2, g2, k2] (4 * t + s) (by omega)
            rw [show (4 * t + s) / 4 = t by omega, show (4 * t + s) % 4 = s by omega] at hn
            have hd := bA_get (l := outP [a2, b2, c2, d2, e2, f2, g2, k2] (4 * t + s)) (j := 4 * t + s) (by unfold outP; rw [tab_length]; omega)
            have ht8 : t = 0 ∨ t = 1 ∨ t = 2 ∨ t = 3 ∨ t = 4 ∨ t = 5 ∨ t = 6 ∨ t = 7 := by omega
            have hx : (#[.int .u32 (a2.toNat : Int), .int .u32 (b2.toNat : Int), .int .u32 (c2.toNat : Int), .int .u32 (d2.toNat : Int), .int .u32 (e2.toNat : Int), .int .u32 (f2.toNat : Int), .int .u32 (g2.toNat : Int), .int .u32 (k2.toNat : Int), .slice p2 rl c3, .int .u64 (rn : Int)] : Array Value)[t]? = some (.int .u32 (([a2, b2, c2, d2, e2, f2, g2, k2].getD t 0).toNat : Int)) := by rcases ht8 with rfl | rfl | rfl | rfl | rfl | rfl | rfl | rfl <;> rfl
            have hx2 : ([.int .u32 (a2.toNat : Int), .int .u32 (b2.toNat : Int), .int .u32 (c2.toNat : Int), .int .u32 (d2.toNat : Int), .int .u32 (e2.toNat : Int), .int .u32 (f2.toNat : Int), .int .u32 (g2.toNat : Int), .int .u32 (k2.toNat : Int), .slice p2 rl c3, .int .u64 (rn : Int)] : List Value)[t]? = some (.int .u32 (([a2, b2, c2, d2, e2, f2, g2, k2].getD t 0).toNat : Int)) := by rcases ht8 with rfl | rfl | rfl | rfl | rfl | rfl | rfl | rfl <;> rfl
            generalize [a2, b2, c2, d2, e2, f2, g2, k2].getD t 0 = x at *
            have hb := out_byte x (3 - s)
            rw [show (3 - s) * 8 = 24 - 8 * s by omega] at hb
            have HN := Lib.hid hn
            clear hn ht8
            generalize byteV x.toNat (3 - s) = y at *
            go_wp2
            have M2 := M.put 0 rfl (4 * t + s) (.int .u8 (y.toNat : Int))
            rw [HN.out] at M2
            exact ⟨⟨s + 1, by omega, by simp, M2⟩, by simp only [intOf]; omega⟩
          · obtain rfl : s = 4 := by omega
            go_wp2
            exact ⟨⟨t + 1, by omega, by simp, by rw [show 4 * (t + 1) = 4 * t + 4 by omega]; exact M⟩, by simp only [intOf]; omega⟩
      · obtain rfl : t = 8 := by omega
        have hl := outP_length [a2, b2, c2, d2, e2, f2, g2, k2] 32
        have M3 := M
        rw [show 4 * 8 = 32 by rfl] at M3
        clear M F
        have M := M3
        clear M3
        have F := Mem.facts M; simp only [MemFacts] at F; (try simp only [ApartFacts] at F)
        go_wp2_with (first | (refine wl_isLoad 23 (.tmp 4) rfl ?_; refine wl_load rfl 23 (.tmp 4) rfl hshT rfl (Mem.at (w0 := w0) 0 (by repeat' (first | (with_reducible exact M) | (with_reducible apply Mem.drew) | (with_reducible apply Mem.alloc') | (simp only [World.size_alloc]; exact rfl) | exact rfl)) (by rfl)) (by first | (rw [wA_size]; exact hl) | (rw [bA_size]; exact hl) | exact hl | exact rfl) ?_) | (refine wl_isStore 23 (.tmp 2) _ rfl ?_; refine wl_storeM (w0 := w0) rfl 23 (.tmp 2) _ rfl hshT rfl rfl 2 (by repeat' (first | (with_reducible exact M) | (with_reducible apply Mem.drew) | (with_reducible apply Mem.alloc') | (simp only [World.size_alloc]; exact rfl) | exact rfl)) (by rfl) (by first | (rw [wA_size]; exact hl) | (rw [bA_size]; exact hl) | exact hl | exact rfl) (by first | (rw [wA_size]; exact nought_length) | (rw [bA_size]; exact nought_length) | exact nought_length | exact rfl) (by first | exact wA_one _ | exact bA_one _ | decide) ?_; clear M F; intro M; (try simp only [World.size_alloc, size_setRow] at M); (try simp only [List.set_cons_succ] at M); (try simp only [List.set_cons_zero] at M); have F := Mem.facts M; simp only [MemFacts] at F; (try simp only [ApartFacts] at F)))
        rw [HS2.out, ← outP_end]
        refine bodyPost_ret (results_cell_row Try.results54 _ _ _ 23 (bA (outP [a2, b2, c2, d2, e2, f2, g2, k2] 32)) (0, 0) _ rfl (M.at 2 rfl) hshT.under rfl (by rw [bA_size, hl]; exact hshT.size)) rfl ⟨rfl, M.below⟩
end Go.Proofs.Ytkgjgdeaclefiaa
