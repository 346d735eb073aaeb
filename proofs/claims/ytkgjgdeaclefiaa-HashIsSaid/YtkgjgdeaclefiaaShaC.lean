/-
  sha2.schedule.
-/
import Derived.Test.YtkgjgdeaclefiaaShaB
import Derived.Test.YtkgjgdeaclefiaaNb
namespace Go.Proofs.Ytkgjgdeaclefiaa
open Go Go.Proofs Go.RowKit Go.Flo

theorem be4_snoc (l : List UInt8) (c : UInt8) : ((be4 (l ++ [c])).toNat : Int) = (((be4 l).toNat * 256 % 4294967296 ||| c.toNat : Nat) : Int) := by
  have h : (be4 l).toNat * 256 % 4294967296 ||| c.toNat < 4294967296 := Nat.or_lt_two_pow (n := 32) (Nat.mod_lt _ (by decide)) (Nat.lt_of_lt_of_le c.toNat_lt (by decide))
  have e : be4 (l ++ [c]) = UInt32.ofNat ((be4 l).toNat * 256 % 4294967296 ||| c.toNat) := by unfold be4; rw [List.foldl_append]; rfl
  rw [e, UInt32.toNat_ofNat_of_lt' h]
theorem be4_step (x : UInt32) (c : UInt8) : bits .or .u32 ((x.toNat : Int) * 256 % 4294967296) (c.toNat : Int) = ((x.toNat * 256 % 4294967296 ||| c.toNat : Nat) : Int) := by
  have e : (x.toNat : Int) * 256 % 4294967296 = ((x.toNat * 256 % 4294967296 : Nat) : Int) := by omega
  rw [e, u32_or_nat _ _ (Nat.mod_lt _ (by decide)) (Nat.lt_of_lt_of_le c.toNat_lt (by decide))]
theorem schW_length (b : List UInt8) (i : Nat) (h : i ≤ 64) : (schW b i).length = 64 := by unfold schW; simp; omega
theorem schW_zero (b : List UInt8) : schW b 0 = zw 64 := rfl
theorem schW_at (b : List UInt8) (i : Nat) (h : i < 64) (x : UInt32) : (schW b i).set i x = (List.range i).map (fun j => be4 ((b.drop (4 * j)).take 4)) ++ x :: List.replicate (63 - i) 0 := by
  unfold schW
  rw [List.set_append_right _ _ (by simp)]
  rw [List.length_map, List.length_range, Nat.sub_self, show 64 - i = (63 - i) + 1 by omega, List.replicate_succ]
  rfl
theorem schW_next (b : List UInt8) (i : Nat) (h : i < 64) : (schW b i).set i (be4 ((b.drop (4 * i)).take 4)) = schW b (i + 1) := by
  rw [schW_at b i h]
  unfold schW
  rw [List.range_succ, List.map_append, List.map_singleton, List.append_assoc]
  rw [show 64 - (i + 1) = 63 - i by omega]
  rfl
theorem schW_same (b : List UInt8) (i : Nat) (h : i < 64) : (schW b i).set i 0 = schW b i := by
  rw [schW_at b i h]
  unfold schW
  rw [show 64 - i = (63 - i) + 1 by omega, List.replicate_succ]
theorem schW_getD (b : List UInt8) (i : Nat) (h : i < 64) (x : UInt32) : ((schW b i).set i x).getD i 0 = x := by
  rw [List.getD_eq_getElem?_getD, List.getElem?_set_self (by rw [schW_length b i (by omega)]; exact h)]
  rfl
/-- The row when t bytes of word i have come. -/
def schP (b : List UInt8) (i t : Nat) : List UInt32 := (schW b i).set i (be4 ((b.drop (4 * i)).take t))
theorem schP_zero (b : List UInt8) (i : Nat) (h : i < 64) : schP b i 0 = schW b i := by unfold schP; exact schW_same b i h
theorem schP_four (b : List UInt8) (i : Nat) (h : i < 64) : schP b i 4 = schW b (i + 1) := schW_next b i h
theorem schP_length (b : List UInt8) (i t : Nat) (h : i < 64) : (schP b i t).length = 64 := by unfold schP; rw [List.length_set, schW_length b i (by omega)]
theorem schP_get (b : List UInt8) (i t : Nat) (h : i < 64) : (schP b i t).getD i 0 = be4 ((b.drop (4 * i)).take t) := schW_getD b i h _
theorem schP_set (b : List UInt8) (i t : Nat) (x : UInt32) : (schP b i t).set i x = (schW b i).set i x := by unfold schP; rw [List.set_set]

structure Sch1 (l : List UInt8) (w0 : World) (k : Value) (wr : World) (i : Nat) : Prop where
  le : i ≤ 16
  k : k = .int .i64 (i : Int)
  mem : Mem w0 wr [.c (w0.heap.size + 1) (wA (schW l i)) 137, .c w0.heap.size (wA (zw 64)) 137]
structure Sch2 (l : List UInt8) (i : Nat) (w0 : World) (k : Value) (wr : World) (t : Nat) : Prop where
  le : t ≤ 4
  k : k = .int .i64 (t : Int)
  mem : Mem w0 wr [.c (w0.heap.size + 1) (wA (schP l i t)) 137, .c w0.heap.size (wA (zw 64)) 137]
structure Sch3 (l : List UInt8) (w0 : World) (k : Value) (wr : World) (i : Nat) : Prop where
  ge : 16 ≤ i
  le : i ≤ 64
  k : k = .int .i64 (i : Int)
  mem : Mem w0 wr [.c (w0.heap.size + 1) (wA (schG l (i - 16))) 137, .c w0.heap.size (wA (zw 64)) 137]
theorem schS_length (w : List UInt32) (i : Nat) : (schS w i).length = w.length := by unfold schS; rw [List.length_set]
theorem schG_length (b : List UInt8) : ∀ j, (schG b j).length = 64
  | 0 => schW_length b 16 (by decide)
  | j + 1 => by unfold schG; rw [schS_length, schG_length b j]
theorem schL_length (b : List UInt8) : (schL b).length = 64 := schG_length b 48
theorem shr32_toNat (x : UInt32) (n : Nat) : (shr32 x n).toNat = x.toNat / 2 ^ n := by
  unfold shr32
  rw [UInt32.toNat_ofNat_of_lt' (Nat.lt_of_le_of_lt (Nat.div_le_self _ _) x.toNat_lt)]
theorem u32_xsh (a x : UInt32) (n : Nat) (m : Nat) (hm : m = 2 ^ n) : bits .xor .u32 (a.toNat : Int) ((x.toNat : Int) / (m : Int)) = ((a ^^^ shr32 x n).toNat : Int) := by
  rw [← u32_xor, shr32_toNat, hm, Int.natCast_ediv]
theorem u32_add4 (a b c d : UInt32) : ((a.toNat : Int) + b.toNat + c.toNat + d.toNat) % 4294967296 = ((a + b + c + d).toNat : Int) := by
  rw [UInt32.toNat_add, UInt32.toNat_add, UInt32.toNat_add]
  omega
theorem sch_val (x1 x2 x3 x4 : UInt32) : ((x1.toNat : Int) + x2.toNat + bits .xor .u32 ((turnV x3 [7, 18]).toNat : Int) ((x3.toNat : Int) / 8) + bits .xor .u32 ((turnV x4 [17, 19]).toNat : Int) ((x4.toNat : Int) / 1024)) % 4294967296 =
    ((x1 + x2 + (turnV x3 [7, 18] ^^^ shr32 x3 3) + (turnV x4 [17, 19] ^^^ shr32 x4 10)).toNat : Int) := by
  have e1 := u32_xsh (turnV x3 [7, 18]) x3 3 8 rfl
  have e2 := u32_xsh (turnV x4 [17, 19]) x4 10 1024 rfl
  rw [show ((8 : Nat) : Int) = 8 from rfl] at e1
  rw [show ((1024 : Nat) : Int) = 1024 from rfl] at e2
  rw [e1, e2, u32_add4]
set_option maxRecDepth 100000 in
set_option maxHeartbeats 4000000 in
theorem schedule_c (v : Value) (l : List UInt8) (hl : l.length = 64) (w0 : World) (hI : Rd8 w0 v l) :
    Calls Try.prog 116 #[v] w0 fun e w' => e = .returned (.agg (wA (schL l))) ∧ Below w0.heap.size w0 w' := by
  obtain ⟨a, cap, rfl⟩ := hI.shape
  obtain ⟨b, off, rfl, _, hbl, hlc, hj⟩ := hI.cells (by omega)
  rw [hl] at hlc ⊢
  have HJ := Lib.hid hj
  clear hj
  have HL := Lib.hid hl
  clear hl hI
  have M := Mem.nil w0; have F := Mem.facts M; simp only [MemFacts] at F; (try simp only [ApartFacts] at F)
  go_enter Try.func116, Try.ntmps116
  go_wp2_with (first | (refine wl_alloc rfl 137 rfl tabZ ?_; (try simp only [World.size_alloc])))
  replace M := Mem.alloc (Mem.alloc M (cs := wA (zw 64)) (t := 137)) (cs := wA (zw 64)) (t := 137)
  simp only [World.size_alloc] at M
  go_loopw [10] (fun k wr => ∃ i, Sch1 l w0 k wr i) (fun k _ => (16 - intOf k).toNat)
  case atStart => exact ⟨0, Nat.zero_le _, rfl, by rw [schW_zero]; exact M⟩
  case round =>
    clear M F
    obtain ⟨i, le, rfl, M⟩ := hrel
    have F := Mem.facts M; simp only [MemFacts] at F; (try simp only [ApartFacts] at F)
    rcases Nat.lt_or_ge i 16 with hlt | hge
    · have hlt' : (i : Int) < 16 := by omega
      have h4 : (i + 1) * 4 - i * 4 = 4 := by omega
      go_wp2
      have h64 : i < 64 := by omega
      rw [← schP_zero l i h64] at M
      clear F h4
      go_loopw [21] (fun k wr => ∃ t, Sch2 l i w0 k wr t) (fun k _ => (4 - intOf k).toNat)
      case atStart => exact ⟨0, Nat.zero_le _, rfl, M⟩
      case round =>
        clear M
        obtain ⟨t, le2, rfl, M⟩ := hrel
        have F := Mem.facts M; simp only [MemFacts] at F; (try simp only [ApartFacts] at F)
        rcases Nat.lt_or_ge t 4 with hlt2 | hge2
        · have hcell : wr.cell? ⟨b, off + i * 4 + t, none⟩ = some (.int .u8 (at8 l (i * 4 + t))) := (M.below.cell (p := ⟨b, off + i * 4 + t, none⟩) hbl).trans (by rw [Nat.add_assoc]; exact HJ.out (i * 4 + t) (by rw [HL.out]; omega))
          have hlen := HL.out
          have htk : (l.drop (4 * i)).take (t + 1) = (l.drop (4 * i)).take t ++ [l[i * 4 + t]] := by
            rw [List.take_succ_eq_append_getElem (by rw [List.length_drop]; omega), List.getElem_drop]
            congr 3
            omega
          rw [at8_get (by omega)] at hcell
          have hx := wA_get (l := schP l i t) (i := i) (by rw [schP_length l i t h64]; exact h64)
          rw [schP_get l i t h64] at hx
          have hs := be4_step (be4 ((l.drop (4 * i)).take t)) l[i * 4 + t]
          rw [← be4_snoc, ← htk] at hs
          have hn : schP l i (t + 1) = (schP l i t).set i (be4 ((l.drop (4 * i)).take (t + 1))) := by rw [schP_set]; rfl
          generalize l[i * 4 + t] = c at *
          have hb2 : b < wr.heap.size := Nat.lt_of_lt_of_le hbl M.size
          have hlt2' : (t : Int) < 4 := by omega
          generalize be4 ((l.drop (4 * i)).take (t + 1)) = y at *
          generalize be4 ((l.drop (4 * i)).take t) = x at *
          have HN := Lib.hid hn
          clear htk hlen hn
          have hc := c.toNat_lt
          go_wp2
          have M2 := M.put 0 rfl i (.int .u32 (y.toNat : Int))
          rw [wA_set, ← HN.out] at M2
          exact ⟨⟨t + 1, by omega, by simp, M2⟩, by simp only [intOf]; omega⟩
        · obtain rfl : t = 4 := by omega
          rw [schP_four l i h64] at M F
          go_wp2
          exact ⟨⟨i + 1, by omega, by simp, M⟩, by simp only [intOf]; omega⟩
    · obtain rfl : i = 16 := by omega
      rw [show ((16 : Nat) : Int) = 16 from rfl]
      go_wp2
      go_loopw [7] (fun k wr => ∃ i, Sch3 l w0 k wr i) (fun k _ => (64 - intOf k).toNat)
      case atStart => exact ⟨16, Nat.le_refl _, by decide, rfl, M⟩
      case round =>
        clear M F
        obtain ⟨i, ge, le, rfl, M⟩ := hrel
        have F := Mem.facts M; simp only [MemFacts] at F; (try simp only [ApartFacts] at F)
        rcases Nat.lt_or_ge i 64 with hlt | hge
        · have gt (x : Nat) (hx : x < 64) := wA_get (l := schG l (i - 16)) (i := x) (by rw [schG_length]; exact hx)
          have g1 := gt (i - 16) (by omega)
          have g2 := gt (i - 7) (by omega)
          have g3 := gt (i - 15) (by omega)
          have g4 := gt (i - 2) (by omega)
          have g5 := gt i hlt
          clear gt
          have hn : schG l (i + 1 - 16) = schS (schG l (i - 16)) i := by
            rw [show i + 1 - 16 = (i - 16) + 1 by omega]
            show schS _ (16 + (i - 16)) = _
            rw [show 16 + (i - 16) = i by omega]
          unfold schS at hn
          generalize (schG l (i - 16)).getD (i - 16) 0 = x1 at *
          generalize (schG l (i - 16)).getD (i - 7) 0 = x2 at *
          generalize (schG l (i - 16)).getD (i - 15) 0 = x3 at *
          generalize (schG l (i - 16)).getD (i - 2) 0 = x4 at *
          have hge' : 16 ≤ (i : Int) := by omega
          have hlt' : (i : Int) < 64 := by omega
          have HN := Lib.hid hn
          clear hn
          go_wp2
          (refine Flo.wp_region_auto (fun _ => True) Flo.rd (by kernel_rfl) (by decide +kernel) (trivial) ?_; repeat (first | (refine Flo.au_skip (by exact rfl) (by exact rfl) ?_; simp only [Act.put, List.setIfInBounds_toArray, List.set_cons_zero, List.set_cons_succ]) | (refine Flo.au_free (by exact rfl) (by exact rfl) (by exact rfl) ?_; intro K hK; go_big_quiet_op; go_big_quiet_on) | (refine Flo.au_still (by exact rfl) (by exact rfl) (by exact rfl) ?_; intro K hK; go_simp; refine hK _ ?_; clear hK K) | (refine Flo.au_move (by exact rfl) (by exact rfl) ?_; intro K hK; go_wp2_with (fail); try (with_reducible refine ⟨rfl, trivial, ?_⟩)) | (refine Flo.mix_nil ?_)))
          go_wp2
          have M' := M.drew
          ((try simp only [List.append_eq, List.cons_append, List.nil_append]); refine Flo.N.wp_made (by kernel_rfl) (by decide +kernel) ?_; (repeat (first | (refine Flo.N.sx_skip (by exact rfl) (by exact rfl) ?_; simp only [Act.put, List.setIfInBounds_toArray, List.set_cons_zero, List.set_cons_succ]) | (refine Flo.N.sx_pure (by exact rfl) (by exact rfl) (by exact rfl) ?_; intro K hK; go_big_quiet_op; go_big_quiet_on) | (refine Flo.N.sx_free (by exact rfl) (by exact rfl) (by exact rfl) (by exact rfl) ?_; intro K hK; go_big_quiet_op; go_big_quiet_on) | (apply Flo.N.sx_alloc (by exact rfl) (by exact rfl); (focus (intro w; go_simp; first | done | exact rfl | exact ⟨rfl, rfl⟩)); intro b hn hfr; (try have hne := Flo.Fresh.ne hfr); simp only [Act.put, List.setIfInBounds_toArray, List.set_cons_zero, List.set_cons_succ]) | (apply Flo.N.sx_build _ (by exact rfl) (by exact rfl); (focus (intro w; go_simp; first | done | exact rfl | exact ⟨rfl, rfl⟩)); intro b hn hfr; (try have hne := Flo.Fresh.ne hfr); simp only [Act.put, List.setIfInBounds_toArray, List.set_cons_zero, List.set_cons_succ]) | (apply Flo.N.sx_give (by exact rfl) (by exact rfl); (focus (intro w hbW hh; apply Flo.gives_of; intro G hG; go_simp; apply hG _ _ (by kernel_rfl); clear hG G; first | (have h3 : w.heap[b]? = some (.cells #[.int .i64 7, .int .i64 18] 3 (0, 0)) := (hh.made 11 b _ (by kernel_rfl) (by rfl)).2; exact turned_2 x3 7 18 b 3 (by decide) (by decide) w h3) | (have h3 : w.heap[b]? = some (.cells #[.int .i64 17, .int .i64 19] 3 (0, 0)) := (hh.made 18 b _ (by kernel_rfl) (by rfl)).2; exact turned_2 x4 17 19 b 3 (by decide) (by decide) w h3))); simp only [Act.put, List.setIfInBounds_toArray, List.set_cons_zero, List.set_cons_succ]) | (refine Flo.N.sx_last (by exact rfl) (by exact rfl) ?_; intro w2 hJ K hK; first | (have hJ : Flo.Holds _ _ _ _ := hJ; (try have HJB := Lib.hid hJ.below); (first | (have hu1 := Flo.Holds.uncover (by exact rfl) hJ; have hu2 := Flo.Holds.uncover (by exact rfl) hu1.2; replace M := Flo.N.got2 (w0 := w0) (by repeat' (first | (with_reducible exact M) | (with_reducible apply Mem.drew) | (with_reducible apply Mem.alloc))) hJ.below hu2.1 hu1.1 hne; clear hu1 hu2) | (have hu1 := Flo.Holds.uncover (by exact rfl) hJ; replace M := Mem.got (w0 := w0) (x := .c _ _ _) (by repeat' (first | (with_reducible exact M) | (with_reducible apply Mem.drew) | (with_reducible apply Mem.alloc))) hJ.below hu1.1; clear hu1) | (replace M := Mem.call (w0 := w0) (by repeat' (first | (with_reducible exact M) | (with_reducible apply Mem.drew) | (with_reducible apply Mem.alloc))) hJ.below) | (have hB2 := hJ.below)); clear hJ; (try clear F); (try simp only [World.size_alloc] at M); (try simp only [heap_drew] at M); (try (have F := Mem.facts M; simp only [MemFacts] at F; (try simp only [ApartFacts] at F))); go_wp2_with (fail); (try refine ⟨rfl, ?_⟩)) | (have hJ : w2 = _ := hJ; subst hJ; go_wp2_with (fail); (try refine ⟨rfl, ?_⟩))))); (first | (refine Flo.N.sx_end ?_) | (refine Flo.N.sx_nil ?_; intro w2 hJ; (try have HJB := Lib.hid hJ.below); (first | (have hu1 := Flo.Holds.uncover (by exact rfl) hJ; have hu2 := Flo.Holds.uncover (by exact rfl) hu1.2; replace M := Flo.N.got2 (w0 := w0) (by repeat' (first | (with_reducible exact M) | (with_reducible apply Mem.drew) | (with_reducible apply Mem.alloc))) hJ.below hu2.1 hu1.1 hne; clear hu1 hu2) | (have hu1 := Flo.Holds.uncover (by exact rfl) hJ; replace M := Mem.got (w0 := w0) (x := .c _ _ _) (by repeat' (first | (with_reducible exact M) | (with_reducible apply Mem.drew) | (with_reducible apply Mem.alloc))) hJ.below hu1.1; clear hu1) | (replace M := Mem.call (w0 := w0) (by repeat' (first | (with_reducible exact M) | (with_reducible apply Mem.drew) | (with_reducible apply Mem.alloc))) hJ.below) | (have hB2 := hJ.below)); clear hJ; (try clear F); (try simp only [World.size_alloc] at M); (try simp only [heap_drew] at M); (try (have F := Mem.facts M; simp only [MemFacts] at F; (try simp only [ApartFacts] at F))))))
          rw [sch_val]
          have hn := HN.out
          generalize x1 + x2 + (turnV x3 [7, 18] ^^^ shr32 x3 3) + (turnV x4 [17, 19] ^^^ shr32 x4 10) = z at hn ⊢
          have M2 := (M.put 2 rfl i (.int .u32 (z.toNat : Int))).pick [2, 3] (by decide)
          rw [wA_set, ← hn] at M2
          clear hn
          simp only [List.set_cons_succ, List.set_cons_zero, List.filterMap_cons, List.getElem?_cons_succ, List.getElem?_cons_zero, List.filterMap_nil] at M2
          go_wp2
          exact ⟨⟨i + 1, by omega, by omega, by simp, M2⟩, by simp only [intOf]; omega⟩
        · obtain rfl : i = 64 := by omega
          have hg := schL_length l
          have M3 : Mem w0 wr [.c (w0.heap.size + 1) (wA (schL l)) 137, .c w0.heap.size (wA (zw 64)) 137] := M
          clear M F
          replace M := M3
          have F := Mem.facts M; simp only [MemFacts] at F; (try simp only [ApartFacts] at F)
          go_wp2_with (first | (refine wl_isLoad 137 _ rfl ?_; refine wl_load rfl 137 _ rfl tabT rfl (Mem.at (w0 := w0) 0 (by repeat' (first | (with_reducible exact M) | (with_reducible apply Mem.drew) | (with_reducible apply Mem.alloc') | (simp only [World.size_alloc]; exact rfl) | exact rfl)) (by rfl)) (by first | (rw [wA_size]; exact hg) | (rw [bA_size]; exact hg) | exact hg | exact rfl) ?_) | (refine wl_store rfl 137 _ _ rfl tabT rfl rfl (Mem.at (w0 := w0) 1 (by repeat' (first | (with_reducible exact M) | (with_reducible apply Mem.drew) | (with_reducible apply Mem.alloc') | (simp only [World.size_alloc]; exact rfl) | exact rfl)) (by rfl)) (by first | (rw [wA_size]; exact hg) | (rw [bA_size]; exact hg) | exact hg | exact rfl) (by first | (rw [wA_size]; exact z64) | (rw [bA_size]; exact z64) | exact z64 | exact rfl) (by first | exact wA_one _ | exact bA_one _ | decide) ?_))
          replace M := M.row 1 rfl (wA (schL l))
          refine bodyPost_ret (results_cell_row Try.results116 _ _ _ 137 (wA (schL l)) (0, 0) _ rfl (M.at 1 rfl) tabT.under rfl (by rw [wA_size, hg]; exact tabT.size)) rfl ⟨rfl, M.below⟩
end Go.Proofs.Ytkgjgdeaclefiaa
