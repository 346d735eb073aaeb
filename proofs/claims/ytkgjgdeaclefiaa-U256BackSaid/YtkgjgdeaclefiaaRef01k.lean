/-
  florinref01: FromHex.
-/
import Derived.Test.YtkgjgdeaclefiaaRef01i
import Derived.Test.YtkgjgdeaclefiaaDigit
import Derived.Test.YtkgjgdeaclefiaaAwake1
import Derived.Test.YtkgjgdeaclefiaaMix3
namespace Go.Proofs.Ytkgjgdeaclefiaa
open Go Go.Proofs Go.RowKit Go.Flo

structure RfhA (s : ByteArray) (w0 : World) (i : Value) (wr : World) (t : Nat) : Prop where
  le : t ≤ s.size
  at_ : i = .int .i64 (t : Int)
  all : (s.data.toList.take t).all isHex = true
  mem : Mem w0 wr [.c w0.heap.size #[.int .u64 0, .int .u64 0, .int .u64 0, .int .u64 0] 35]
structure RfhB (s : ByteArray) (b : Nat) (w0 : World) (i : Value) (wr : World) (t : Nat) : Prop where
  le : t ≤ s.size
  at_ : i = .int .i64 (t : Int)
  small : hexN (s.data.toList.take t) < top
  mem : Mem w0 wr [.c b #[.int .u64 (l0 (hexN (s.data.toList.take t))), .int .u64 (l1 (hexN (s.data.toList.take t))), .int .u64 (l2 (hexN (s.data.toList.take t))), .int .u64 (l3 (hexN (s.data.toList.take t)))] 35, .c w0.heap.size #[.int .u64 0, .int .u64 0, .int .u64 0, .int .u64 0] 35]

theorem hexN_take_le (l : List UInt8) : ∀ k, hexN (l.take k) ≤ hexN (l.take (k + 1)) := fun k => by
  rcases Nat.lt_or_ge k l.length with h | h
  · rw [take_snoc8 l k h, hexN_snoc]; omega
  · rw [List.take_of_length_le h, List.take_of_length_le (by omega)]; exact Nat.le_refl _
theorem hexN_mono (l : List UInt8) (k : Nat) : ∀ j, hexN (l.take k) ≤ hexN (l.take (k + j))
  | 0 => Nat.le_refl _
  | j + 1 => Nat.le_trans (hexN_mono l k j) (hexN_take_le l (k + j))
theorem hexN_all (l : List UInt8) (k : Nat) : hexN (l.take k) ≤ hexN l := by
  have := hexN_mono l k l.length
  rwa [List.take_of_length_le (by omega : l.length ≤ k + l.length)] at this

set_option maxRecDepth 100000 in
set_option maxHeartbeats 4000000 in
theorem rfromhex_c (s : ByteArray) (hs : s.size ≤ 1000000) (w0 : World) :
    Calls Try.prog 80 #[.string s] w0 fun e w' => e = .returned (.tuple #[uV (parseHex s.data.toList).1, .int .i64 (parseHex s.data.toList).2]) ∧ Below w0.heap.size w0 w' := by
  have hT : 0 < top := Nat.lt_trans (by decide) top_big
  by_cases h0 : s.size = 0
  · have hd : s.data.toList = [] := List.eq_nil_of_length_eq_zero (by simpa using h0)
    have Ep : Hid (parseHex s.data.toList = (0, 2)) := by unfold parseHex; rw [if_pos (.inl hd)]; rfl
    clear hd
    have M := Mem.nil w0; have F := Mem.facts M; simp only [MemFacts] at F; (try simp only [ApartFacts] at F)
    go_enter Try.func80, Try.ntmps80
    go_wp2
    replace M := Mem.alloc M (cs := #[.int .u64 0, .int .u64 0, .int .u64 0, .int .u64 0]) (t := 35)
    rw [Ep.out, ← uV_zero]
    refine bodyPost_ret (v := .tuple #[.agg #[.int .u64 0, .int .u64 0, .int .u64 0, .int .u64 0], .int .i64 2]) (by simp [results, Try.results80, go_sem]) rfl ⟨rfl, M.below⟩
  · have hb0 : ((s.size : Int) == 0) = false := by rw [beq_eq_false_iff_ne]; omega
    have hne : s.data.toList ≠ [] := fun h => h0 (by have := congrArg List.length h; simpa using this)
    have Hne := Lib.hid hne
    clear h0 hne
    have M := Mem.nil w0; have F := Mem.facts M; simp only [MemFacts] at F; (try simp only [ApartFacts] at F)
    go_enter Try.func80, Try.ntmps80
    go_wp2
    replace M := Mem.alloc M (cs := #[.int .u64 0, .int .u64 0, .int .u64 0, .int .u64 0]) (t := 35)
    go_loopw [4] (fun i wr => ∃ t, RfhA s w0 i wr t) (fun i _ => (s.size - intOf i).toNat)
    case atStart => exact ⟨0, Nat.zero_le _, rfl, rfl, M⟩
    case round =>
      clear M F
      obtain ⟨t, le, rfl, hall, M⟩ := hrel
      have F := Mem.facts M; simp only [MemFacts] at F; (try simp only [ApartFacts] at F)
      have Hall := Lib.hid hall
      clear hall
      rcases Nat.lt_or_ge t s.size with hlt | hge
      · have htk : s.data.toList.take (t + 1) = s.data.toList.take t ++ [s[t]] := take_snoc8 _ t (by simpa using hlt)
        have hlt' : (t : Int) < s.size := by omega
        cases hd : hexd s[t].toNat with
        | some d =>
          have ea : (s.data.toList.take (t + 1)).all isHex = true := by
            rw [htk, List.all_append, Hall.out]
            simp [isHex, hd]
          have Ea := Lib.hid ea
          clear ea
          have Hd := Lib.hid hd
          clear hd htk
          go_wp2_with (first | (go_at_call 128; (with_reducible refine ((rdigit_some _ d Hd.out) _).mono ?_); rintro e w1 ⟨rfl, hb⟩; replace M := Mem.call (w0 := w0) (by repeat' (first | (with_reducible exact M) | (with_reducible apply Mem.drew) | (with_reducible apply Mem.alloc))) hb; clear hb; (try clear F); (try simp only [World.size_alloc] at M); (try simp only [heap_drew] at M); have F := Mem.facts M; simp only [MemFacts] at F; (try simp only [ApartFacts] at F)))
          exact ⟨⟨t + 1, hlt, by simp, Ea.out, M⟩, by simp only [intOf]; omega⟩
        | none =>
          have hbad : ¬ s.data.toList.all isHex = true := fun h => by
            have := List.all_eq_true.1 h s[t] (List.getElem_mem (l := s.data.toList) (n := t) (by simpa using hlt))
            rw [isHex, hd] at this
            cases this
          have Ep : Hid (parseHex s.data.toList = (0, 2)) := by unfold parseHex; rw [if_pos (.inr hbad)]; rfl
          have Hd := Lib.hid hd
          clear hd htk hbad
          go_wp2_with (first | (go_at_call 128; (with_reducible refine ((rdigit_none _ Hd.out) _).mono ?_); rintro e w1 ⟨rfl, hb⟩; replace M := Mem.call (w0 := w0) (by repeat' (first | (with_reducible exact M) | (with_reducible apply Mem.drew) | (with_reducible apply Mem.alloc))) hb; clear hb; (try clear F); (try simp only [World.size_alloc] at M); (try simp only [heap_drew] at M); have F := Mem.facts M; simp only [MemFacts] at F; (try simp only [ApartFacts] at F)))
          rw [Ep.out, ← uV_zero]
          (have hc := fun j => cell_of_row _ _ j _ _ _ ((M.put4 0 rfl (.int .u64 (0)) (.int .u64 (0)) (.int .u64 (0)) (.int .u64 (0))).at 0 rfl); refine bodyPost_ret (v := .tuple #[.agg #[.int .u64 0, .int .u64 0, .int .u64 0, .int .u64 0], .int .i64 2]) (by simp [results, Try.results80, go_sem, hc]) rfl ⟨rfl, (M.put4 0 rfl _ _ _ _).below⟩)
      · obtain rfl : t = s.size := by omega
        have hA := Hall.out
        rw [List.take_of_length_le (by simp)] at hA
        have HA := Lib.hid hA
        clear Hall hA hge le
        go_wp2
        replace M := Mem.alloc M (cs := #[.int .u64 0, .int .u64 0, .int .u64 0, .int .u64 0]) (t := 35)
        obtain ⟨b, hb⟩ : ∃ b, b = wr.heap.size := ⟨_, rfl⟩
        rw [← hb] at M
        clear F
        go_loopw [6] (fun i wr => ∃ t, RfhB s b w0 i wr t) (fun i _ => (s.size - intOf i).toNat)
        case atStart =>
          refine ⟨0, Nat.zero_le _, rfl, by rw [List.take_zero, hexN_nil]; exact hT, ?_⟩
          rw [List.take_zero, hexN_nil, four0]
          exact M
        case round =>
          clear M
          rw [← hb]
          clear hb
          obtain ⟨t, le, rfl, hsm, M⟩ := hrel
          have F := Mem.facts M; simp only [MemFacts] at F; (try simp only [ApartFacts] at F)
          obtain ⟨n, hn⟩ : ∃ n, n = hexN (s.data.toList.take t) := ⟨_, rfl⟩
          rw [← hn] at hsm M F
          have Hsm := Lib.hid hsm
          rcases Nat.lt_or_ge t s.size with hlt | hge
          · have htk : s.data.toList.take (t + 1) = s.data.toList.take t ++ [s[t]] := take_snoc8 _ t (by simpa using hlt)
            have hlt' : (t : Int) < s.size := by omega
            cases hd : hexd s[t].toNat with
            | none =>
              have := List.all_eq_true.1 HA.out s[t] (List.getElem_mem (l := s.data.toList) (n := t) (by simpa using hlt))
              rw [isHex, hd] at this
              cases this
            | some d =>
              have d16 := hexd_lt hd
              have hv : hexv s[t] = d := by unfold hexv; rw [hd]; rfl
              have en : hexN (s.data.toList.take (t + 1)) = n * 16 + d := by rw [htk, hexN_snoc, ← hn, hv]
              have st := hex_step n d d16
              rw [Nat.mod_eq_of_lt hsm, decide_eq_false (by omega : ¬ top ≤ n), Bool.false_or] at st
              obtain ⟨x, hx⟩ : ∃ x, x = n * 16 % top := ⟨_, rfl⟩
              obtain ⟨ov, hov⟩ : ∃ ov, ov = decide (top ≤ n * 16) := ⟨_, rfl⟩
              have C1 : ∀ w, Calls Try.prog 125 #[uV n, .int .i64 4] w fun e w' => e = .returned (.tuple #[uV x, .bool ov]) ∧ Below w.heap.size w w' := fun w => by
                rw [hx, hov]; exact rshl_c n Hsm.out 4 w
              rw [← hx, ← hov, ← en] at st
              have Hd := Lib.hid hd
              have Hn := Lib.hid hn
              have hall := hexN_all s.data.toList (t + 1)
              clear hsm hn hd htk hv en hx hov
              rcases ov with _ | _
              · have hsm1 : hexN (s.data.toList.take (t + 1)) < top := by
                  have := of_decide_eq_false st.2.symm
                  omega
                have e4 := four_or x d (by omega)
                rw [st.1, Nat.mod_eq_of_lt hsm1] at e4
                have E4 := Lib.hid e4
                have Hsm1 := Lib.hid hsm1
                clear e4 hsm1 st hall
                go_wp2_with (go_at_call 125; (with_reducible refine (C1 _).mono ?_); rintro e w1 ⟨rfl, hb⟩; replace M := Mem.call (w0 := w0) (by repeat' (first | (with_reducible exact M) | (with_reducible apply Mem.drew) | (with_reducible apply Mem.alloc))) hb; clear hb; (try clear F); (try simp only [World.size_alloc] at M); (try simp only [heap_drew] at M); have F := Mem.facts M; simp only [MemFacts] at F; (try simp only [ApartFacts] at F))
                ((try simp only [List.append_eq, List.cons_append, List.nil_append]); refine Flo.N.wp_made (by kernel_rfl) (by decide +kernel) ?_; (repeat (first | (refine Flo.N.sx_skip (by exact rfl) (by exact rfl) ?_; simp only [Act.put, List.setIfInBounds_toArray, List.set_cons_zero, List.set_cons_succ]) | (refine Flo.N.sx_pure (by exact rfl) (by exact rfl) (by exact rfl) ?_; intro K hK; go_big_quiet_op; go_big_quiet_on) | (refine Flo.N.sx_free (by exact rfl) (by exact rfl) (by exact rfl) (by exact rfl) ?_; intro K hK; go_big_quiet_op; go_big_quiet_on) | (apply Flo.N.sx_alloc (by exact rfl) (by exact rfl); (focus (intro w; go_simp; try exact rfl)); intro b hn hfr; (try have hne := Flo.Fresh.ne hfr); simp only [Act.put, List.setIfInBounds_toArray, List.set_cons_zero, List.set_cons_succ]) | (apply Flo.N.sx_give (by exact rfl) (by exact rfl); (focus (intro w hbW hh; apply Flo.gives_of; intro G hG; go_simp; apply hG _ _ (by kernel_rfl); clear hG G; first | (with_reducible exact (rdigit_some _ d Hd.out) _))); simp only [Act.put, List.setIfInBounds_toArray, List.set_cons_zero, List.set_cons_succ]) | (refine Flo.N.sx_last (by exact rfl) (by exact rfl) ?_; intro w2 hJ K hK; first | (have hJ : Flo.Holds _ _ _ _ := hJ; (first | (have hu1 := Flo.Holds.uncover (by exact rfl) hJ; have hu2 := Flo.Holds.uncover (by exact rfl) hu1.2; replace M := Flo.N.got2 (w0 := w0) (by repeat' (first | (with_reducible exact M) | (with_reducible apply Mem.drew) | (with_reducible apply Mem.alloc))) hJ.below hu2.1 hu1.1 hne; clear hu1 hu2) | (have hu1 := Flo.Holds.uncover (by exact rfl) hJ; replace M := Mem.got (w0 := w0) (x := .c _ _ _) (by repeat' (first | (with_reducible exact M) | (with_reducible apply Mem.drew) | (with_reducible apply Mem.alloc))) hJ.below hu1.1; clear hu1) | (replace M := Mem.call (w0 := w0) (by repeat' (first | (with_reducible exact M) | (with_reducible apply Mem.drew) | (with_reducible apply Mem.alloc))) hJ.below)); clear hJ; (try clear F); (try simp only [World.size_alloc] at M); (try simp only [heap_drew] at M); have F := Mem.facts M; simp only [MemFacts] at F; (try simp only [ApartFacts] at F); go_wp2_with (fail); (try refine ⟨rfl, ?_⟩)) | (have hJ : w2 = _ := hJ; subst hJ; go_wp2_with (fail); (try refine ⟨rfl, ?_⟩))))); (first | (refine Flo.N.sx_end ?_) | (refine Flo.N.sx_nil ?_; intro w2 hJ; (first | (have hu1 := Flo.Holds.uncover (by exact rfl) hJ; have hu2 := Flo.Holds.uncover (by exact rfl) hu1.2; replace M := Flo.N.got2 (w0 := w0) (by repeat' (first | (with_reducible exact M) | (with_reducible apply Mem.drew) | (with_reducible apply Mem.alloc))) hJ.below hu2.1 hu1.1 hne; clear hu1 hu2) | (have hu1 := Flo.Holds.uncover (by exact rfl) hJ; replace M := Mem.got (w0 := w0) (x := .c _ _ _) (by repeat' (first | (with_reducible exact M) | (with_reducible apply Mem.drew) | (with_reducible apply Mem.alloc))) hJ.below hu1.1; clear hu1) | (replace M := Mem.call (w0 := w0) (by repeat' (first | (with_reducible exact M) | (with_reducible apply Mem.drew) | (with_reducible apply Mem.alloc))) hJ.below)); clear hJ; (try clear F); (try simp only [World.size_alloc] at M); (try simp only [heap_drew] at M); have F := Mem.facts M; simp only [MemFacts] at F; (try simp only [ApartFacts] at F))))
                go_wp2
                refine ⟨⟨t + 1, hlt, by simp, Hsm1.out, ?_⟩, by simp only [intOf]; omega⟩
                rw [← E4.out]
                exact (((M.put 0 rfl 0 (.int .u64 (bits .or .u64 (l0 x) (d : Int)))).put4 1 rfl (.int .u64 (bits .or .u64 (l0 x) (d : Int))) (.int .u64 (l1 x)) (.int .u64 (l2 x)) (.int .u64 (l3 x)))).pick [1, 2] (by decide)
              · have hbig : top ≤ hexN (s.data.toList.take (t + 1)) := of_decide_eq_true st.2.symm
                have hor : ¬ (s.data.toList = [] ∨ ¬ s.data.toList.all isHex = true) := fun h => h.elim Hne.out (fun h => h HA.out)
                have Ep : Hid (parseHex s.data.toList = (0, 3)) := by unfold parseHex; rw [if_neg hor, if_pos (Nat.le_trans hbig hall)]; rfl
                clear st hall hbig hor
                go_wp2_with (go_at_call 125; (with_reducible refine (C1 _).mono ?_); rintro e w1 ⟨rfl, hb⟩; replace M := Mem.call (w0 := w0) (by repeat' (first | (with_reducible exact M) | (with_reducible apply Mem.drew) | (with_reducible apply Mem.alloc))) hb; clear hb; (try clear F); (try simp only [World.size_alloc] at M); (try simp only [heap_drew] at M); have F := Mem.facts M; simp only [MemFacts] at F; (try simp only [ApartFacts] at F))
                rw [Ep.out, ← uV_zero]
                have M2 := (M.put4 1 rfl (.int .u64 0) (.int .u64 0) (.int .u64 0) (.int .u64 0)).alloc (cs := #[.int .u64 (l0 x), .int .u64 (l1 x), .int .u64 (l2 x), .int .u64 (l3 x)]) (t := 35)
                have hc := fun j => cell_of_row _ _ j _ _ _ (M2.at 2 rfl)
                refine bodyPost_ret (v := .tuple #[.agg #[.int .u64 0, .int .u64 0, .int .u64 0, .int .u64 0], .int .i64 3]) (by simp [results, Try.results80, go_sem, hc]) rfl ⟨rfl, M2.below⟩
          · obtain rfl : t = s.size := by omega
            rw [List.take_of_length_le (by simp)] at hn
            have hor : ¬ (s.data.toList = [] ∨ ¬ s.data.toList.all isHex = true) := fun h => h.elim Hne.out (fun h => h HA.out)
            have Ep : Hid (parseHex s.data.toList = (n, 0)) := by unfold parseHex; rw [if_neg hor, ← hn, if_neg (by omega)]; rfl
            clear hn hor hsm
            go_wp2
            rw [Ep.out]
            (have hc := fun j => cell_of_row _ _ j _ _ _ ((M.put4 1 rfl (.int .u64 (l0 n)) (.int .u64 (l1 n)) (.int .u64 (l2 n)) (.int .u64 (l3 n))).at 1 rfl); refine bodyPost_ret (v := .tuple #[uV n, .int .i64 0]) (by simp [results, Try.results80, go_sem, hc]) rfl ⟨rfl, (M.put4 1 rfl _ _ _ _).below⟩)
end Go.Proofs.Ytkgjgdeaclefiaa
