/-
  florinref03: Number, Cmp.
-/
import Derived.Test.YtkgjgdeaclefiaaHsh
import Derived.Test.YtkgjgdeaclefiaaRef1
import Derived.Test.YtkgjgdeaclefiaaShaF
namespace Go.Proofs.Ytkgjgdeaclefiaa
open Go Go.Proofs Go.RowKit Go.Flo

structure R3n (l : List UInt8) (w0 : World) (v k : Value) (wr : World) (t : Nat) : Prop where
  le : t ≤ 32
  at_ : k = .int .i64 (31 - (t : Int))
  mem : Mem w0 wr [.s v 5 1 (l.reverse.take t).length ((l.reverse.take t).map fun x => Value.int .u8 (x.toNat : Int)), .c (w0.heap.size + 1) #[.int .u64 0, .int .u64 0, .int .u64 0, .int .u64 0] 35, .c w0.heap.size (bA l) 23]
set_option maxRecDepth 100000 in
set_option maxHeartbeats 2000000 in
theorem rnumber3_c (l : List UInt8) (hl : l.length = 32) (w0 : World) :
    Calls Try.prog 103 #[.agg (bA l)] w0 fun e w' => e = .returned (uV (beN l.reverse)) ∧ Below w0.heap.size w0 w' := by
  obtain ⟨i0, HI⟩ := info8
  have hr : l.reverse.length = 32 := by simpa using hl
  obtain ⟨n, hn⟩ : ∃ n, Hid (n = beN l.reverse) := ⟨_, Lib.hid rfl⟩
  rw [← hn.out]
  have M := Mem.nil w0; have F := Mem.facts M; simp only [MemFacts] at F; (try simp only [ApartFacts] at F)
  go_enter Try.func103, Try.ntmps103
  go_wp2_with (first | (refine wl_box rfl 23 _ rfl rfl ?_) | (refine wl_alloc rfl 23 rfl hshZ ?_))
  replace M := Mem.allocS (Mem.alloc (Mem.alloc M (cs := bA l) (t := 23)) (cs := #[.int .u64 0, .int .u64 0, .int .u64 0, .int .u64 0]) (t := 35)) 5 1
  simp only [World.size_alloc] at M
  go_loopw [3, 4] (fun v k wr => ∃ t, R3n l w0 v k wr t) (fun _ k _ => (intOf k + 1).toNat)
  case atStart => exact ⟨0, Nat.zero_le _, rfl, M⟩
  case round =>
    clear M F
    obtain ⟨t, le, rfl, M⟩ := hrel
    obtain ⟨p, cap, rfl⟩ := M.shape 0 rfl
    rcases Nat.lt_or_ge t 32 with hlt | hge
    · obtain ⟨j, hj⟩ : ∃ j, j = 31 - t := ⟨_, rfl⟩
      have hj' : (31 : Int) - (t : Int) = (j : Int) := by omega
      have hj32 : (j : Int) < 32 := by omega
      have hj0 : (0 : Int) ≤ (j : Int) := by omega
      have htk := take_snoc8 l.reverse t (by omega)
      have hlen : (l.reverse.take t).length ≤ 32 := by rw [List.length_take]; omega
      have hg : (bA l)[j]? = some (.int .u8 ((l.reverse[t]'(by omega)).toNat : Int)) := by
        rw [bA_get (by omega), at8_get (by omega)]
        have e : l.reverse[t]'(by omega) = l[j]'(by omega) := by
          rw [List.getElem_reverse]
          have : l.length - 1 - t = j := by omega
          simp only [this]
        rw [e]
      generalize l.reverse[t]'(by omega) = y at *
      rw [hj']
      have HJ := Lib.hid hj'
      have HT := Lib.hid htk
      have HL := Lib.hid hlen
      have hcell := cell_of_row _ _ j _ _ _ (M.at 2 rfl)
      rw [hg] at hcell
      have F := Mem.facts M; simp only [MemFacts] at F; (try simp only [ApartFacts] at F)
      clear hj htk hlen hj'
      go_wp2_with (at_builtin; (refine wl_append _ (w0 := w0) 1 (Mem.alloc M) rfl rfl _ _ 42 rfl i0 _ _ Try.underlying42 HI.out.1 HI.out.2.1 HI.out.2.2.1 HI.out.2.2.2 rfl (by decide) rfl ⟨wr.heap.size, 0, none⟩ 1 1 [.int .u8 (y.toNat : Int)] rfl rfl (new_cells _ _ _) (by simp [Value.oneCell']) (by have := HL.out; unfold maxLen; omega) (by have := HL.out; omega) ?_); clear M; intro v w1 M)
      replace M := M.pick [1, 2, 3] (by decide)
      simp only [List.set_cons_succ, List.set_cons_zero, List.filterMap_cons, List.getElem?_cons_succ, List.getElem?_cons_zero, List.filterMap_nil] at M
      rw [show (l.reverse.take t).map (fun x => Value.int .u8 (x.toNat : Int)) ++ [.int .u8 (y.toNat : Int)] = (l.reverse.take (t + 1)).map (fun x => Value.int .u8 (x.toNat : Int)) by rw [HT.out]; simp, show (l.reverse.take t).length + 1 = (l.reverse.take (t + 1)).length by rw [HT.out]; simp] at M
      have h31 := HJ.out
      refine ⟨⟨t + 1, by omega, ?_, M⟩, by simp only [intOf]; omega⟩
      congr 1
      omega
    · obtain rfl : t = 32 := by omega
      rw [show l.reverse.take 32 = l.reverse from List.take_of_length_le (by rw [hr]; exact Nat.le_refl _)] at M ⊢
      have F1 := fun w (hb : Below wr.heap.size wr w) => rfrombytes_c _ l.reverse (by omega) w ((Mem.rdOwn 0 M rfl).below hb)
      rw [hr] at F1 M ⊢
      clear hr
      rw [← hn.out] at F1
      have F := Mem.facts M; simp only [MemFacts] at F; (try simp only [ApartFacts] at F)
      go_wp2_with (first | (go_at_call 78; ((with_reducible refine (F1 _ ?_).mono ?_); (focus (repeat' (first | (with_reducible exact Below.refl _ _) | (with_reducible assumption) | (with_reducible refine Below.drew ?_) | (with_reducible refine Below.alloc ?_ ?_ _) | (with_reducible refine Below.setCell ?_ ?_ _) | (with_reducible refine Flo.below_step ?_ (by assumption)) | (simp; done) | (simp; omega))))); rintro e w1 ⟨rfl, hb⟩; replace M := Mem.call (w0 := w0) (by repeat' (first | (with_reducible exact M) | (with_reducible apply Mem.drew) | (with_reducible apply Mem.alloc))) hb; clear hb; (try clear F); (try simp only [World.size_alloc] at M); (try simp only [heap_drew] at M); have F := Mem.facts M; simp only [MemFacts] at F; (try simp only [ApartFacts] at F)))
      have M2 := (M.put4 1 rfl (.int .u64 (l0 n)) (.int .u64 (l1 n)) (.int .u64 (l2 n)) (.int .u64 (l3 n))).alloc (cs := #[.int .u64 (l0 n), .int .u64 (l1 n), .int .u64 (l2 n), .int .u64 (l3 n)]) (t := 35)
      have hc := fun j => cell_of_row _ _ j _ _ _ (M2.at 2 rfl)
      refine bodyPost_ret (v := uV n) (by simp [results, Try.results103, go_sem, hc]) rfl ⟨rfl, M2.below⟩

set_option maxRecDepth 100000 in
set_option maxHeartbeats 2000000 in
theorem rcmp3_c (k l : List UInt8) (hk : k.length = 32) (hl : l.length = 32) (w0 : World) :
    Calls Try.prog 106 #[.agg (bA k), .agg (bA l)] w0 fun e w' => e = .returned (.int .i64 (cmpI (beN k.reverse) (beN l.reverse))) ∧ Below w0.heap.size w0 w' := by
  have hk' : beN k.reverse < top := beN_top (by rw [List.length_reverse, hk]; exact Nat.le_refl _)
  have hl' : beN l.reverse < top := beN_top (by rw [List.length_reverse, hl]; exact Nat.le_refl _)
  have N1 := rnumber3_c k hk
  have N2 := rnumber3_c l hl
  have C1 := rcmp_c _ _ hk' hl'
  generalize beN k.reverse = x at *
  generalize beN l.reverse = y at *
  clear hk' hl'
  have M := Mem.nil w0; have F := Mem.facts M; simp only [MemFacts] at F; (try simp only [ApartFacts] at F)
  go_enter Try.func106, Try.ntmps106
  go_wp2_with (first | (refine wl_box rfl 23 _ rfl rfl ?_) | (refine wl_alloc rfl 23 rfl hshZ ?_))
  replace M := Mem.alloc (Mem.alloc M (cs := bA k) (t := 23)) (cs := bA l) (t := 23)
  simp only [World.size_alloc] at M
  ((try simp only [List.append_eq, List.cons_append, List.nil_append]); refine Flo.N.wp_made (by kernel_rfl) (by decide +kernel) ?_; (repeat (first | (refine Flo.N.sx_skip (by exact rfl) (by exact rfl) ?_; simp only [Act.put, List.setIfInBounds_toArray, List.set_cons_zero, List.set_cons_succ]) | (refine Flo.N.sx_pure (by exact rfl) (by exact rfl) (by exact rfl) ?_; intro K hK; go_big_quiet_op; go_big_quiet_on) | (refine Flo.N.sx_row (by exact rfl) (by exact rfl) (by exact rfl) 23 _ rfl hshT rfl (Mem.at (w0 := w0) 1 (by repeat' (first | (with_reducible exact M) | (with_reducible apply Mem.drew) | (with_reducible apply Mem.alloc))) (by rfl)) (heap_lt (Mem.at (w0 := w0) 1 (by repeat' (first | (with_reducible exact M) | (with_reducible apply Mem.drew) | (with_reducible apply Mem.alloc))) (by rfl))) ?_ ?_; (focus (rw [bA_size]; exact hk)); simp only [Act.put, List.setIfInBounds_toArray, List.set_cons_zero, List.set_cons_succ]) | (refine Flo.N.sx_row (by exact rfl) (by exact rfl) (by exact rfl) 23 _ rfl hshT rfl (Mem.at (w0 := w0) 0 (by repeat' (first | (with_reducible exact M) | (with_reducible apply Mem.drew) | (with_reducible apply Mem.alloc))) (by rfl)) (heap_lt (Mem.at (w0 := w0) 0 (by repeat' (first | (with_reducible exact M) | (with_reducible apply Mem.drew) | (with_reducible apply Mem.alloc))) (by rfl))) ?_ ?_; (focus (rw [bA_size]; exact hl)); simp only [Act.put, List.setIfInBounds_toArray, List.set_cons_zero, List.set_cons_succ]) | (refine Flo.N.sx_free (by exact rfl) (by exact rfl) (by exact rfl) (by exact rfl) ?_; intro K hK; go_big_quiet_op; go_big_quiet_on) | (apply Flo.N.sx_alloc (by exact rfl) (by exact rfl); (focus (intro w; go_simp; first | done | exact rfl | exact ⟨rfl, rfl⟩)); intro b hn hfr; (try have hne := Flo.Fresh.ne hfr); simp only [Act.put, List.setIfInBounds_toArray, List.set_cons_zero, List.set_cons_succ]) | (apply Flo.N.sx_build _ (by exact rfl) (by exact rfl); (focus (intro w; go_simp; first | done | exact rfl | exact ⟨rfl, rfl⟩)); intro b hn hfr; (try have hne := Flo.Fresh.ne hfr); simp only [Act.put, List.setIfInBounds_toArray, List.set_cons_zero, List.set_cons_succ]) | (apply Flo.N.sx_give (by exact rfl) (by exact rfl); (focus (intro w hbW hh; apply Flo.gives_of; intro G hG; go_simp; apply hG _ _ (by kernel_rfl); clear hG G; first | (with_reducible exact N1 _) | (with_reducible exact N2 _) | (with_reducible exact C1 _))); simp only [Act.put, List.setIfInBounds_toArray, List.set_cons_zero, List.set_cons_succ]) | (refine Flo.N.sx_last (by exact rfl) (by exact rfl) ?_; intro w2 hJ K hK; first | (have hJ : Flo.Holds _ _ _ _ := hJ; (try have HJB := Lib.hid hJ.below); (first | (have hu1 := Flo.Holds.uncover (by exact rfl) hJ; have hu2 := Flo.Holds.uncover (by exact rfl) hu1.2; replace M := Flo.N.got2 (w0 := w0) (by repeat' (first | (with_reducible exact M) | (with_reducible apply Mem.drew) | (with_reducible apply Mem.alloc))) hJ.below hu2.1 hu1.1 hne; clear hu1 hu2) | (have hu1 := Flo.Holds.uncover (by exact rfl) hJ; replace M := Mem.got (w0 := w0) (x := .c _ _ _) (by repeat' (first | (with_reducible exact M) | (with_reducible apply Mem.drew) | (with_reducible apply Mem.alloc))) hJ.below hu1.1; clear hu1) | (replace M := Mem.call (w0 := w0) (by repeat' (first | (with_reducible exact M) | (with_reducible apply Mem.drew) | (with_reducible apply Mem.alloc))) hJ.below) | (have hB2 := hJ.below)); clear hJ; (try clear F); (try simp only [World.size_alloc] at M); (try simp only [heap_drew] at M); (try (have F := Mem.facts M; simp only [MemFacts] at F; (try simp only [ApartFacts] at F))); go_wp2_with (fail); (try refine ⟨rfl, ?_⟩)) | (have hJ : w2 = _ := hJ; subst hJ; go_wp2_with (fail); (try refine ⟨rfl, ?_⟩))))); (first | (refine Flo.N.sx_end ?_) | (refine Flo.N.sx_nil ?_; intro w2 hJ; (try have HJB := Lib.hid hJ.below); (first | (have hu1 := Flo.Holds.uncover (by exact rfl) hJ; have hu2 := Flo.Holds.uncover (by exact rfl) hu1.2; replace M := Flo.N.got2 (w0 := w0) (by repeat' (first | (with_reducible exact M) | (with_reducible apply Mem.drew) | (with_reducible apply Mem.alloc))) hJ.below hu2.1 hu1.1 hne; clear hu1 hu2) | (have hu1 := Flo.Holds.uncover (by exact rfl) hJ; replace M := Mem.got (w0 := w0) (x := .c _ _ _) (by repeat' (first | (with_reducible exact M) | (with_reducible apply Mem.drew) | (with_reducible apply Mem.alloc))) hJ.below hu1.1; clear hu1) | (replace M := Mem.call (w0 := w0) (by repeat' (first | (with_reducible exact M) | (with_reducible apply Mem.drew) | (with_reducible apply Mem.alloc))) hJ.below) | (have hB2 := hJ.below)); clear hJ; (try clear F); (try simp only [World.size_alloc] at M); (try simp only [heap_drew] at M); (try (have F := Mem.facts M; simp only [MemFacts] at F; (try simp only [ApartFacts] at F))))))
  (go_wp2_with (fail); refine bodyPost_ret (v := .int .i64 (cmpI x y)) (by simp [results, Try.results106, go_sem]) rfl ⟨rfl, (Mem.below (w0 := w0) (by repeat' (first | (with_reducible exact M) | (with_reducible apply Mem.drew) | (with_reducible apply Mem.alloc))))⟩)
end Go.Proofs.Ytkgjgdeaclefiaa
