/-
  florinref03: Text.
-/
import Derived.Test.YtkgjgdeaclefiaaHashP
import Derived.Test.YtkgjgdeaclefiaaShaF
namespace Go.Proofs.Ytkgjgdeaclefiaa
open Go Go.Proofs Go.RowKit Go.Flo

structure R3t (l : List UInt8) (w0 : World) (v k : Value) (wr : World) (t : Nat) : Prop where
  le : t ≤ 32
  at_ : k = .int .i64 (31 - (t : Int))
  mem : Mem w0 wr [.s v 5 1 (2 * t) (((l.reverse.take t).flatMap two).map (Value.int .u8)), .c w0.heap.size (bA l) 23]
theorem two_len (r : List UInt8) : (r.flatMap two).length = 2 * r.length := by
  induction r with
  | nil => rfl
  | cons x r ih => rw [List.flatMap_cons, List.length_append, ih, List.length_cons]; simp [two]; omega
set_option maxRecDepth 100000 in
set_option maxHeartbeats 2000000 in
theorem rtext3_c (l : List UInt8) (hl : l.length = 32) (w0 : World) :
    Calls Try.prog 104 #[.agg (bA l)] w0 fun e w' => e = .returned (.string (strOf (txtI l))) ∧ Below w0.heap.size w0 w' := by
  obtain ⟨i0, hi, hz0, hz1, hz2⟩ : ∃ i : TypeInfo, Try.prog.info? 5 = some i ∧ i.zero = some (.int .u8 0) ∧ i.size = 1 ∧ i.bytes = 1 := ⟨_, rfl, rfl, rfl, rfl⟩
  have hr : l.reverse.length = 32 := by simpa using hl
  rw [show txtI l = l.reverse.flatMap two from rfl]
  have M := Mem.nil w0; have F := Mem.facts M; simp only [MemFacts] at F; (try simp only [ApartFacts] at F)
  go_enter Try.func104, Try.ntmps104
  go_wp2_with (first | (refine wl_box rfl 23 _ rfl rfl ?_) | (refine wl_alloc rfl 23 rfl hshZ ?_))
  replace M := Mem.allocS (Mem.alloc M (cs := bA l) (t := 23)) 5 1
  go_loopw [4, 5] (fun v k wr => ∃ t, R3t l w0 v k wr t) (fun _ k _ => (intOf k + 1).toNat)
  case atStart => exact ⟨0, Nat.zero_le _, rfl, M⟩
  case round =>
    clear M F
    obtain ⟨t, le, rfl, M⟩ := hrel
    obtain ⟨p, cap, rfl⟩ := M.shape 0 rfl
    rcases Nat.lt_or_ge t 32 with hlt | hge
    · obtain ⟨j, hj⟩ : ∃ j, j = 31 - t := ⟨_, rfl⟩
      have hj' : (31 : Int) - (t : Int) = (j : Int) := by omega
      have hj32 : (j : Int) < 32 := by omega
      have hj0 : (0 : Int) ≤ (j : Int) := by omega
      have htk := take_snoc8 l.reverse t (by omega)
      have hg : (bA l)[j]? = some (.int .u8 ((l.reverse[t]'(by omega)).toNat : Int)) := by
        rw [bA_get (by omega), at8_get (by omega)]
        have e : l.reverse[t]'(by omega) = l[j]'(by omega) := by
          rw [List.getElem_reverse]
          have : l.length - 1 - t = j := by omega
          simp only [this]
        rw [e]
      generalize l.reverse[t]'(by omega) = y at *
      rw [hj']
      have HJ := Lib.hid hj'
      have HT := Lib.hid htk
      have F := Mem.facts M; simp only [MemFacts] at F; (try simp only [ApartFacts] at F)
      clear hj htk hj'
      have hc8 := y.toNat_lt
      obtain ⟨q, hq⟩ : ∃ q, q = y.toNat := ⟨_, rfl⟩
      rw [← hq] at hc8 hg
      have HQ := Lib.hid hq
      have hq256 : q < 256 := by omega
      have hq0 : (q : Int) < 256 := by omega
      obtain ⟨q1, h1⟩ : ∃ q1, q1 = q / 16 := ⟨_, rfl⟩
      obtain ⟨q2, h2⟩ : ∃ q2, q2 = q % 16 := ⟨_, rfl⟩
      have hs1 : (q : Int) / 16 = (q1 : Int) := by omega
      have hs2 : (q : Int) % 16 = (q2 : Int) := by omega
      have d1 : q1 < 16 := by omega
      have d2 : q2 < 16 := by omega
      have g1 : ((((ByteArray.mk #[48, 49, 50, 51, 52, 53, 54, 55, 56, 57, 97, 98, 99, 100, 101, 102])[q1]'d1).toNat : Nat) : Int) = sgn q1 := sgn_get q1 d1 d1
      have g2 : ((((ByteArray.mk #[48, 49, 50, 51, 52, 53, 54, 55, 56, 57, 97, 98, 99, 100, 101, 102])[q2]'d2).toNat : Nat) : Int) = sgn q2 := sgn_get q2 d2 d2
      have d1' : (q1 : Int) < 16 := by omega
      have d2' : (q2 : Int) < 16 := by omega
      have H1 := Lib.hid h1
      have H2 := Lib.hid h2
      clear hc8 hq h1 h2
      go_wp2
      ((try simp only [List.append_eq, List.cons_append, List.nil_append]); refine Flo.N.wp_made (by kernel_rfl) (by decide +kernel) ?_; (repeat (first | (refine Flo.N.sx_skip (by exact rfl) (by exact rfl) ?_; simp only [Act.put, List.setIfInBounds_toArray, List.set_cons_zero, List.set_cons_succ]) | (refine Flo.N.sx_pure (by exact rfl) (by exact rfl) (by exact rfl) ?_; intro K hK; go_big_quiet_op; go_big_quiet_on) | (refine Flo.N.sx_free (by exact rfl) (by exact rfl) (by exact rfl) (by exact rfl) ?_; intro K hK; go_big_quiet_op; go_big_quiet_on) | (apply Flo.N.sx_alloc (by exact rfl) (by exact rfl); (focus (intro w; go_simp; first | done | exact rfl | exact ⟨rfl, rfl⟩)); intro b hn hfr; (try have hne := Flo.Fresh.ne hfr); simp only [Act.put, List.setIfInBounds_toArray, List.set_cons_zero, List.set_cons_succ]) | (apply Flo.N.sx_build _ (by exact rfl) (by exact rfl); (focus (intro w; go_simp; first | done | exact rfl | exact ⟨rfl, rfl⟩)); intro b hn hfr; (try have hne := Flo.Fresh.ne hfr); simp only [Act.put, List.setIfInBounds_toArray, List.set_cons_zero, List.set_cons_succ]))))
      (refine Flo.N.sx_last (by exact rfl) (by exact rfl) ?_; intro w2 hJ K hK; have hJ : Flo.Holds _ _ _ _ := hJ; (try have HJB := Lib.hid hJ.below); (first | (have hu1 := Flo.Holds.uncover (by exact rfl) hJ; have hu2 := Flo.Holds.uncover (by exact rfl) hu1.2; replace M := Flo.N.got2 (w0 := w0) (by repeat' (first | (with_reducible exact M) | (with_reducible apply Mem.drew) | (with_reducible apply Mem.alloc))) hJ.below hu2.1 hu1.1 hne; clear hu1 hu2) | (have hu1 := Flo.Holds.uncover (by exact rfl) hJ; replace M := Mem.got (w0 := w0) (x := .c _ _ _) (by repeat' (first | (with_reducible exact M) | (with_reducible apply Mem.drew) | (with_reducible apply Mem.alloc))) hJ.below hu1.1; clear hu1) | (replace M := Mem.call (w0 := w0) (by repeat' (first | (with_reducible exact M) | (with_reducible apply Mem.drew) | (with_reducible apply Mem.alloc))) hJ.below) | (have hB2 := hJ.below)); clear hJ; (try clear F); (try simp only [World.size_alloc] at M); (try simp only [heap_drew] at M); (try (have F := Mem.facts M; simp only [MemFacts] at F; (try simp only [ApartFacts] at F))))
      refine Flo.wp_append (P := Try.prog) _ 1 M rfl _ _ 42 rfl i0 (.int .u8 0) 1 Try.underlying42 hi hz0 hz1 hz2 rfl (by decide) rfl _ 2 2 [.int .u8 (sgn q1), .int .u8 (sgn q2)] rfl rfl ?c1 ?c2 ?c3 ?c4 ?_
      case c1 =>
        intro k u hk
        match k, hk with
        | 0, hk => simp at hk; subst hk; simp [Addr.add, F]
        | 1, hk => simp at hk; subst hk; simp [Addr.add, F]
      case c2 => intro u hu; simp at hu; rcases hu with rfl | rfl <;> rfl
      case c3 => unfold maxLen; omega
      case c4 => omega
      intro v' w3 M3 _
      replace M := M3.pick [1, 2] (by decide)
      simp only [List.set_cons_succ, List.set_cons_zero, List.filterMap_cons, List.getElem?_cons_succ, List.getElem?_cons_zero, List.filterMap_nil] at M
      clear F M3
      refine hK _ _ ⟨rfl, ?_⟩
      clear hK
      simp only [Act.put, List.setIfInBounds_toArray, List.set_cons_zero, List.set_cons_succ]
      (first | (refine Flo.N.sx_pure (by exact rfl) (by exact rfl) (by exact rfl) ?_; intro K hK; go_big_quiet_op; go_big_quiet_on) | (refine Flo.N.sx_free (by exact rfl) (by exact rfl) (by exact rfl) (by exact rfl) ?_; intro K hK; go_big_quiet_op; go_big_quiet_on))
      refine Flo.N.sx_end ?_
      go_wp2
      have e : (l.reverse.take (t + 1)).flatMap two = (l.reverse.take t).flatMap two ++ [sgn q1, sgn q2] := by
        rw [HT.out, List.flatMap_append]
        simp only [List.flatMap_cons, List.flatMap_nil, List.append_nil, two]
        rw [← HQ.out, ← H1.out, ← H2.out]
      have hJ := HJ.out
      refine ⟨⟨t + 1, by omega, by congr 1; omega, ?_⟩, by simp only [intOf]; omega⟩
      rw [e, List.map_append, show 2 * (t + 1) = 2 * t + 2 by omega]
      exact M
    · obtain rfl : t = 32 := by omega
      rw [show l.reverse.take 32 = l.reverse from List.take_of_length_le (by rw [hr]; exact Nat.le_refl _)] at M
      have hown : wr.ownsRow w0.heap.size 5 1 (.slice p (2 * 32) cap) (2 * 32) ((l.reverse.flatMap two).map (Value.int .u8)) := M.items.get (i := 0) (x := .s (.slice p (2 * 32) cap) 5 1 (2 * 32) ((l.reverse.flatMap two).map (Value.int .u8))) rfl
      have hconv := own_string Try.underlying42 Try.underlying5 Try.underlying9 hown (by decide)
      go_wp2
      (go_wp2_with (fail); refine bodyPost_ret (v := .string (strOf (l.reverse.flatMap two))) (by simp [results, Try.results104, go_sem]) rfl ⟨rfl, (Mem.below (w0 := w0) (by repeat' (first | (with_reducible exact M) | (with_reducible apply Mem.drew) | (with_reducible apply Mem.alloc))))⟩)
end Go.Proofs.Ytkgjgdeaclefiaa
