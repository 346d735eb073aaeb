/-
  florinref02.words.
-/
import Derived.Test.YtkgjgdeaclefiaaShaM
namespace Go.Proofs.Ytkgjgdeaclefiaa
open Go Go.Proofs Go.RowKit Go.Flo

theorem be4_list (a b c d : UInt8) : ((be4 [a, b, c, d]).toNat : Int) = (a.toNat * 16777216 + b.toNat * 65536 + c.toNat * 256 + d.toNat : Nat) := by
  have ha := a.toNat_lt
  have hb := b.toNat_lt
  have hc := c.toNat_lt
  have hd := d.toNat_lt
  have st (x : UInt32) (c : UInt8) (hx : x.toNat < 16777216) : (UInt32.ofNat (x.toNat * 256 % 4294967296 ||| c.toNat)).toNat = x.toNat * 256 + c.toNat := by
    have hc := c.toNat_lt
    rw [Nat.mod_eq_of_lt (by omega), show x.toNat * 256 = 2 ^ 8 * x.toNat by omega, ← Nat.two_pow_add_eq_or_of_lt hc, UInt32.toNat_ofNat_of_lt' (by show _ < 4294967296; omega)]
  have e0 : (be4 [a]).toNat = a.toNat := by
    show (UInt32.ofNat ((0 : UInt32).toNat * 256 % 4294967296 ||| a.toNat)).toNat = _
    rw [st 0 a (by decide)]; simp
  have e1 : (be4 [a, b]).toNat = a.toNat * 256 + b.toNat := by
    show (UInt32.ofNat ((be4 [a]).toNat * 256 % 4294967296 ||| b.toNat)).toNat = _
    rw [st _ b (by omega), e0]
  have e2 : (be4 [a, b, c]).toNat = (a.toNat * 256 + b.toNat) * 256 + c.toNat := by
    show (UInt32.ofNat ((be4 [a, b]).toNat * 256 % 4294967296 ||| c.toNat)).toNat = _
    rw [st _ c (by omega), e1]
  have e3 : (be4 [a, b, c, d]).toNat = ((a.toNat * 256 + b.toNat) * 256 + c.toNat) * 256 + d.toNat := by
    show (UInt32.ofNat ((be4 [a, b, c]).toNat * 256 % 4294967296 ||| d.toNat)).toNat = _
    rw [st _ d (by omega), e2]
  rw [e3, show ((a.toNat * 256 + b.toNat) * 256 + c.toNat) * 256 + d.toNat = a.toNat * 16777216 + b.toNat * 65536 + c.toNat * 256 + d.toNat by omega]
theorem be4_ref (a b c d : UInt8) : bits .or .u32 (bits .or .u32 (bits .or .u32 ((a.toNat : Int) * 16777216) ((b.toNat : Int) * 65536)) ((c.toNat : Int) * 256)) (d.toNat : Int) = ((be4 [a, b, c, d]).toNat : Int) := by
  have ha := a.toNat_lt
  have hb := b.toNat_lt
  have hc := c.toNat_lt
  have hd := d.toNat_lt
  have o (x y k : Nat) (hy : y < 2 ^ k) (hx : 2 ^ k * x + y < 4294967296) : bits .or .u32 ((2 ^ k * x : Nat) : Int) (y : Int) = ((2 ^ k * x + y : Nat) : Int) := by
    rw [u32_or_nat _ _ (by omega) (by omega), ← Nat.two_pow_add_eq_or_of_lt hy]
  rw [be4_list, show (a.toNat : Int) * 16777216 = ((2 ^ 24 * a.toNat : Nat) : Int) by omega, show (b.toNat : Int) * 65536 = ((b.toNat * 65536 : Nat) : Int) by omega, show (c.toNat : Int) * 256 = ((c.toNat * 256 : Nat) : Int) by omega]
  rw [o a.toNat (b.toNat * 65536) 24 (by omega) (by omega), show 2 ^ 24 * a.toNat + b.toNat * 65536 = 2 ^ 16 * (a.toNat * 256 + b.toNat) by omega]
  rw [o _ (c.toNat * 256) 16 (by omega) (by omega), show 2 ^ 16 * (a.toNat * 256 + b.toNat) + c.toNat * 256 = 2 ^ 8 * ((a.toNat * 256 + b.toNat) * 256 + c.toNat) by omega]
  rw [o _ d.toNat 8 (by omega) (by omega), show 2 ^ 8 * ((a.toNat * 256 + b.toNat) * 256 + c.toNat) + d.toNat = a.toNat * 16777216 + b.toNat * 65536 + c.toNat * 256 + d.toNat by omega]
theorem turn_g (x : UInt32) (n : Nat) (i : Int) (hi : i = (n : Int)) (h0 : 0 < n) (h1 : n < 32) : Gives 121 #[.int .u32 (x.toNat : Int), .int .u64 i] (.int .u32 ((rot x n).toNat : Int)) :=
  fun w => hi ▸ (turn_c x n h0 h1 w).mono fun e w' ⟨he, hw⟩ => ⟨he, hw ▸ Below.refl _ _⟩
structure RW1 (l : List UInt8) (w0 : World) (k : Value) (wr : World) (i : Nat) : Prop where
  le : i ≤ 16
  k : k = .int .i64 (i : Int)
  mem : Mem w0 wr [.c (w0.heap.size + 1) (wA (schW l i)) 136, .c w0.heap.size (wA (zw 64)) 136]
structure RW3 (l : List UInt8) (w0 : World) (k : Value) (wr : World) (i : Nat) : Prop where
  ge : 16 ≤ i
  le : i ≤ 64
  k : k = .int .i64 (i : Int)
  mem : Mem w0 wr [.c (w0.heap.size + 1) (wA (schG l (i - 16))) 136, .c w0.heap.size (wA (zw 64)) 136]
set_option maxRecDepth 100000 in
set_option maxHeartbeats 4000000 in
theorem rwords_c (v : Value) (l : List UInt8) (hl : l.length = 64) (w0 : World) (hI : Rd8 w0 v l) :
    Calls Try.prog 119 #[v] w0 fun e w' => e = .returned (.agg (wA (schL l))) ∧ Below w0.heap.size w0 w' := by
  obtain ⟨a, cap, rfl⟩ := hI.shape
  obtain ⟨b, off, rfl, _, hbl, hlc, hj⟩ := hI.cells (by omega)
  rw [hl] at hlc ⊢
  have HJ := Lib.hid hj
  clear hj
  have HL := Lib.hid hl
  clear hl hI
  have M := Mem.nil w0; have F := Mem.facts M; simp only [MemFacts] at F; (try simp only [ApartFacts] at F)
  go_enter Try.func119, Try.ntmps119
  go_wp2_with (first | (refine wl_alloc rfl 136 rfl tab2Z ?_; (try simp only [World.size_alloc])))
  replace M := Mem.alloc (Mem.alloc M (cs := wA (zw 64)) (t := 136)) (cs := wA (zw 64)) (t := 136)
  simp only [World.size_alloc] at M
  go_loopw [4] (fun k wr => ∃ i, RW1 l w0 k wr i) (fun k _ => (16 - intOf k).toNat)
  case atStart => exact ⟨0, Nat.zero_le _, rfl, by rw [schW_zero]; exact M⟩
  case round =>
    clear M F
    obtain ⟨i, le, rfl, M⟩ := hrel
    have F := Mem.facts M; simp only [MemFacts] at F; (try simp only [ApartFacts] at F)
    rcases Nat.lt_or_ge i 16 with hlt | hge
    · have hlt' : (i : Int) < 16 := by omega
      have h64 : i < 64 := by omega
      have hb2 : b < wr.heap.size := Nat.lt_of_lt_of_le hbl M.size
      have hlen := HL.out
      have cell (j : Nat) (hj : 4 * i + j < 64) : wr.cell? ⟨b, off + (4 * i + j), none⟩ = some (.int .u8 (((l.getD (4 * i + j) 0).toNat : Nat) : Int)) := by
        rw [(M.below.cell (p := ⟨b, off + (4 * i + j), none⟩) hbl).trans (HJ.out (4 * i + j) (by rw [hlen]; exact hj)), at8_get (by omega)]
        simp [List.getD_eq_getElem?_getD, show 4 * i + j < l.length by omega]
      have c0 := cell 0 (by omega)
      have c1 := cell 1 (by omega)
      have c2 := cell 2 (by omega)
      have c3 := cell 3 (by omega)
      clear cell
      rw [Nat.add_zero] at c0
      have ht : (l.drop (4 * i)).take 4 = [l.getD (4 * i) 0, l.getD (4 * i + 1) 0, l.getD (4 * i + 2) 0, l.getD (4 * i + 3) 0] := by
        apply List.ext_getElem (by simp; omega)
        intro j h1 h2
        have h3 : j < 4 := by simpa using h2
        rw [List.getElem_take, List.getElem_drop]
        rcases (by omega : j = 0 ∨ j = 1 ∨ j = 2 ∨ j = 3) with rfl | rfl | rfl | rfl
        · simp [List.getD_eq_getElem?_getD, show 4 * i < l.length by omega]
        · simp [List.getD_eq_getElem?_getD, show 4 * i + 1 < l.length by omega]
        · simp [List.getD_eq_getElem?_getD, show 4 * i + 2 < l.length by omega]
        · simp [List.getD_eq_getElem?_getD, show 4 * i + 3 < l.length by omega]
      have hs := be4_ref (l.getD (4 * i) 0) (l.getD (4 * i + 1) 0) (l.getD (4 * i + 2) 0) (l.getD (4 * i + 3) 0)
      have hn := schW_next l i h64
      have g1 := wA_get (l := schW l i) (i := i) (by rw [schW_length l i (by omega)]; exact h64)
      rw [← ht] at hs
      generalize be4 ((l.drop (4 * i)).take 4) = y at *
      generalize l.getD (4 * i) 0 = x0 at *
      generalize l.getD (4 * i + 1) 0 = x1 at *
      generalize l.getD (4 * i + 2) 0 = x2 at *
      generalize l.getD (4 * i + 3) 0 = x3 at *
      have HN := Lib.hid hn
      clear hn ht hlen
      have q0 := x0.toNat_lt
      have q1 := x1.toNat_lt
      have q2 := x2.toNat_lt
      have q3 := x3.toNat_lt
      go_wp2
      (refine Flo.wp_region_auto (fun _ => True) Flo.rd (by kernel_rfl) (by decide +kernel) (trivial) ?_; repeat (first | (refine Flo.au_skip (by exact rfl) (by exact rfl) ?_; simp only [Act.put, List.setIfInBounds_toArray, List.set_cons_zero, List.set_cons_succ]) | (refine Flo.au_free (by exact rfl) (by exact rfl) (by exact rfl) ?_; intro K hK; go_big_quiet_op; go_big_quiet_on) | (refine Flo.au_still (by exact rfl) (by exact rfl) (by exact rfl) ?_; intro K hK; go_simp; refine hK _ ?_; clear hK K) | (refine Flo.au_move (by exact rfl) (by exact rfl) ?_; intro K hK; go_wp2_with (fail); try (with_reducible refine ⟨rfl, trivial, ?_⟩)) | (refine Flo.mix_nil ?_)))
      go_wp2
      have M2 := (M.put 0 rfl i (.int .u32 (y.toNat : Int))).drew
      rw [wA_set, HN.out] at M2
      exact ⟨⟨i + 1, by omega, by simp, M2⟩, by simp only [intOf]; omega⟩
    · obtain rfl : i = 16 := by omega
      rw [show ((16 : Nat) : Int) = 16 from rfl]
      go_wp2
      go_loopw [5] (fun k wr => ∃ i, RW3 l w0 k wr i) (fun k _ => (64 - intOf k).toNat)
      case atStart => exact ⟨16, Nat.le_refl _, by decide, rfl, M⟩
      case round =>
        clear M F
        obtain ⟨i, ge, le, rfl, M⟩ := hrel
        have F := Mem.facts M; simp only [MemFacts] at F; (try simp only [ApartFacts] at F)
        rcases Nat.lt_or_ge i 64 with hlt | hge
        · have gt (x : Nat) (hx : x < 64) := wA_get (l := schG l (i - 16)) (i := x) (by rw [schG_length]; exact hx)
          have g1 := gt (i - 16) (by omega)
          have g2 := gt (i - 7) (by omega)
          have g3 := gt (i - 15) (by omega)
          have g4 := gt (i - 2) (by omega)
          have g5 := gt i hlt
          clear gt
          have hn : schG l (i + 1 - 16) = schS (schG l (i - 16)) i := by
            rw [show i + 1 - 16 = (i - 16) + 1 by omega]
            show schS _ (16 + (i - 16)) = _
            rw [show 16 + (i - 16) = i by omega]
          unfold schS at hn
          generalize (schG l (i - 16)).getD (i - 16) 0 = x1 at *
          generalize (schG l (i - 16)).getD (i - 7) 0 = x2 at *
          generalize (schG l (i - 16)).getD (i - 15) 0 = x3 at *
          generalize (schG l (i - 16)).getD (i - 2) 0 = x4 at *
          have hge' : 16 ≤ (i : Int) := by omega
          have hlt' : (i : Int) < 64 := by omega
          have T1 := turn_g x3 7 7 rfl (by decide) (by decide)
          have T2 := turn_g x3 18 18 rfl (by decide) (by decide)
          have T3 := turn_g x4 17 17 rfl (by decide) (by decide)
          have T4 := turn_g x4 19 19 rfl (by decide) (by decide)
          have e1 := u32_xor (rot x3 7) (rot x3 18)
          have e2 := u32_xor (rot x4 17) (rot x4 19)
          rw [← turn2] at e1 e2
          have e3 := u32_xsh (turnV x3 [7, 18]) x3 3 8 rfl
          have e4 := u32_xsh (turnV x4 [17, 19]) x4 10 1024 rfl
          rw [show ((8 : Nat) : Int) = 8 from rfl] at e3
          rw [show ((1024 : Nat) : Int) = 1024 from rfl] at e4
          generalize turnV x3 [7, 18] ^^^ shr32 x3 3 = s0 at *
          generalize turnV x4 [17, 19] ^^^ shr32 x4 10 = s1 at *
          generalize turnV x3 [7, 18] = s2 at *
          generalize turnV x4 [17, 19] = s3 at *
          generalize rot x3 7 = r1 at *
          generalize rot x3 18 = r2 at *
          generalize rot x4 17 = r3 at *
          generalize rot x4 19 = r4 at *
          have e5 : ((s1.toNat : Int) + x2.toNat + s0.toNat + x1.toNat) % 4294967296 = ((x1 + x2 + s0 + s1).toNat : Int) := by
            rw [← u32_add4]; congr 1; omega
          generalize x1 + x2 + s0 + s1 = z at *
          have HN := Lib.hid hn
          clear hn
          go_wp2_with (go_at_call 121; (first | (with_reducible refine (T1 _).mono ?_) | (with_reducible refine (T2 _).mono ?_) | (with_reducible refine (T3 _).mono ?_) | (with_reducible refine (T4 _).mono ?_)); rintro e w1 ⟨rfl, hb⟩; replace M := Mem.call (w0 := w0) (by repeat' (first | (with_reducible exact M) | (with_reducible apply Mem.drew) | (with_reducible apply Mem.alloc))) hb; clear hb; (try clear F); (try simp only [World.size_alloc] at M); (try simp only [heap_drew] at M); have F := Mem.facts M; simp only [MemFacts] at F; (try simp only [ApartFacts] at F))
          (refine Flo.wp_region_auto (fun _ => True) Flo.rd (by kernel_rfl) (by decide +kernel) (trivial) ?_; repeat (first | (refine Flo.au_skip (by exact rfl) (by exact rfl) ?_; simp only [Act.put, List.setIfInBounds_toArray, List.set_cons_zero, List.set_cons_succ]) | (refine Flo.au_free (by exact rfl) (by exact rfl) (by exact rfl) ?_; intro K hK; go_big_quiet_op; go_big_quiet_on) | (refine Flo.au_still (by exact rfl) (by exact rfl) (by exact rfl) ?_; intro K hK; go_simp; refine hK _ ?_; clear hK K) | (refine Flo.au_move (by exact rfl) (by exact rfl) ?_; intro K hK; go_wp2_with (fail); try (with_reducible refine ⟨rfl, trivial, ?_⟩)) | (refine Flo.mix_nil ?_)))
          go_wp2
          have M2 := (M.put 0 rfl i (.int .u32 (z.toNat : Int))).drew
          rw [wA_set, ← HN.out] at M2
          exact ⟨⟨i + 1, by omega, by omega, by simp, M2⟩, by simp only [intOf]; omega⟩
        · obtain rfl : i = 64 := by omega
          have hg := schL_length l
          have M3 : Mem w0 wr [.c (w0.heap.size + 1) (wA (schL l)) 136, .c w0.heap.size (wA (zw 64)) 136] := M
          clear M F
          replace M := M3
          have F := Mem.facts M; simp only [MemFacts] at F; (try simp only [ApartFacts] at F)
          go_wp2_with (first | (refine wl_isLoad 136 _ rfl ?_; refine wl_load rfl 136 _ rfl tab2T rfl (Mem.at (w0 := w0) 0 (by repeat' (first | (with_reducible exact M) | (with_reducible apply Mem.drew) | (with_reducible apply Mem.alloc') | (simp only [World.size_alloc]; exact rfl) | exact rfl)) (by rfl)) (by first | (rw [wA_size]; exact hg) | (rw [bA_size]; exact hg) | exact hg | exact rfl) ?_) | (refine wl_store rfl 136 _ _ rfl tab2T rfl rfl (Mem.at (w0 := w0) 1 (by repeat' (first | (with_reducible exact M) | (with_reducible apply Mem.drew) | (with_reducible apply Mem.alloc') | (simp only [World.size_alloc]; exact rfl) | exact rfl)) (by rfl)) (by first | (rw [wA_size]; exact hg) | (rw [bA_size]; exact hg) | exact hg | exact rfl) (by first | (rw [wA_size]; exact z64) | (rw [bA_size]; exact z64) | exact z64 | exact rfl) (by first | exact wA_one _ | exact bA_one _ | decide) ?_))
          replace M := M.row 1 rfl (wA (schL l))
          refine bodyPost_ret (results_cell_row Try.results119 _ _ _ 136 (wA (schL l)) (0, 0) _ rfl (M.at 1 rfl) tab2T.under rfl (by rw [wA_size, hg]; exact tab2T.size)) rfl ⟨rfl, M.below⟩
end Go.Proofs.Ytkgjgdeaclefiaa
