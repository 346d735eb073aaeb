/-
  u256.FromHex.
-/
import Derived.Test.YtkgjgdeaclefiaaDigit
import Derived.Test.YtkgjgdeaclefiaaAwake1
import Derived.Laws.RangeAny
namespace Go.Proofs.Ytkgjgdeaclefiaa
open Go Go.Proofs Go.RowKit Go.Flo

theorem iterPos_at {w : World} {k p : Nat} {s : ByteArray} (h : w.heap[k]? = some (.stringIter s p)) : w.iterPos k = p := by unfold World.iterPos; rw [h]

structure FhR (s : ByteArray) (w0 : World) (v : Value) (wr : World) (t : Nat) : Prop where
  le : t ≤ s.size
  lost : v = .bool (decide (top ≤ hexN (s.data.toList.take t)))
  all : (s.data.toList.take t).all isHex = true
  mem : Mem w0 wr [.o (w0.heap.size + 1 + 1) (.stringIter s t), .c (w0.heap.size + 1) #[.int .u64 (l0 (hexN (s.data.toList.take t) % top)), .int .u64 (l1 (hexN (s.data.toList.take t) % top)), .int .u64 (l2 (hexN (s.data.toList.take t) % top)), .int .u64 (l3 (hexN (s.data.toList.take t) % top))] 32, .c w0.heap.size #[.int .u64 0, .int .u64 0, .int .u64 0, .int .u64 0] 32]

set_option maxRecDepth 100000 in
set_option maxHeartbeats 2000000 in
theorem fromhex_c (s : ByteArray) (w0 : World) :
    Calls Try.prog 79 #[.string s] w0 fun e w' => e = .returned (.tuple #[uV (parseHex s.data.toList).1, .int .i64 (parseHex s.data.toList).2]) ∧ Below w0.heap.size w0 w' := by
  have hT : 0 < top := Nat.lt_trans (by decide) top_big
  have M := Mem.nil w0; have F := Mem.facts M; simp only [MemFacts] at F; (try simp only [ApartFacts] at F)
  go_enter Try.func79, Try.ntmps79
  go_wp2
  go_loopw [5] (fun v wr => ∃ t, FhR s w0 v wr t) (fun _ wr => s.size - wr.iterPos (w0.heap.size + 1 + 1))
  case atStart =>
    refine ⟨0, Nat.zero_le _, by rw [List.take_zero, hexN_nil, decide_eq_false (by omega)], rfl, ?_⟩
    rw [List.take_zero, hexN_nil, Nat.zero_mod, four0]
    refine Mem.allocO (by simp) ?_
    repeat' (first | (with_reducible exact M) | (with_reducible apply Mem.drew) | (with_reducible refine Mem.alloc' ?_ ?_) | (simp; done))
  case round =>
    clear M F
    obtain ⟨t, le, rfl, hall, M⟩ := hrel
    have F := Mem.facts M; simp only [MemFacts] at F; (try simp only [ApartFacts] at F)
    have HM := Lib.hid M
    have hit := M.obj 0 rfl
    have Hall := Lib.hid hall
    clear M hall
    obtain ⟨n, hn⟩ : ∃ n, n = hexN (s.data.toList.take t) := ⟨_, rfl⟩
    rw [← hn] at F HM ⊢
    have HN := Lib.hid hn
    clear hn
    rcases Nat.lt_or_ge t s.size with hlt | hge
    · have htk : s.data.toList.take (t + 1) = s.data.toList.take t ++ [s[t]] := take_snoc8 _ t (by simpa using hlt)
      cases hd : hexd s[t].toNat with
      | some d =>
        have h128 : s[t].toNat < 128 := by
          rcases Nat.lt_or_ge s[t].toNat 128 with h | h
          · exact h
          · rw [hexd_high h] at hd; cases hd
        have hnx := fun ty => Lib.run_next_ascii_at (P := Try.prog) wr _ s t ty hit hlt h128
        have d16 := hexd_lt hd
        have Hd := Lib.hid hd
        have Htk := Lib.hid htk
        clear hd htk hit F
        have M := HM.out.iter 0 rfl (t + 1)
        dsimp only [List.set_cons_zero] at M
        obtain ⟨L, hL⟩ : ∃ L, L = decide (top ≤ n) := ⟨_, rfl⟩
        rw [← hL]
        obtain ⟨x, hx⟩ : ∃ x, x = n % top * 16 % top := ⟨_, rfl⟩
        obtain ⟨ov, hov⟩ : ∃ ov, ov = decide (top ≤ n % top * 16) := ⟨_, rfl⟩
        have C1 : ∀ w, Calls Try.prog 74 #[uV (n % top), .int .i64 4] w fun e w' => e = .returned (.tuple #[uV x, .bool ov]) ∧ Below w.heap.size w w' := fun w => by
          rw [hx, hov]; exact shl_c (n % top) (Nat.mod_lt _ hT) 4 w
        have st := hex_step n d d16
        rw [← hL, ← hov, ← hx] at st
        have St := Lib.hid st
        clear hL hx hov st
        have hv : hexv s[t] = d := by unfold hexv; rw [Hd.out]; rfl
        have en : hexN (s.data.toList.take (t + 1)) = n * 16 + d := by rw [Htk.out, hexN_snoc, ← HN.out, hv]
        have ea : (s.data.toList.take (t + 1)).all isHex = true := by
          rw [Htk.out, List.all_append, Hall.out]
          simp [isHex, Hd.out]
        have e4 := four_or x d (by omega)
        rw [St.out.1] at e4
        rw [← en] at e4
        have E4 := Lib.hid e4
        have Ea := Lib.hid ea
        have El : Hid ((L || ov) = decide (top ≤ hexN (s.data.toList.take (t + 1)))) := by rw [en]; exact St.out.2
        clear hv en ea e4
        rcases L with _ | _ <;> rcases ov with _ | _
        all_goals
          go_wp2_with (first | (go_at_call 127; (with_reducible refine ((digit_some _ d Hd.out) _).mono ?_); rintro e w1 ⟨rfl, hb⟩; replace M := Mem.call (w0 := w0) (by repeat' (first | (with_reducible exact M) | (with_reducible apply Mem.drew) | (with_reducible apply Mem.alloc))) hb; clear hb; (try clear F); (try simp only [World.size_alloc] at M); (try simp only [heap_drew] at M); have F := Mem.facts M; simp only [MemFacts] at F; (try simp only [ApartFacts] at F)) | (go_at_call 74; (with_reducible refine (C1 _).mono ?_); rintro e w1 ⟨rfl, hb⟩; replace M := Mem.call (w0 := w0) (by repeat' (first | (with_reducible exact M) | (with_reducible apply Mem.drew) | (with_reducible apply Mem.alloc))) hb; clear hb; (try clear F); (try simp only [World.size_alloc] at M); (try simp only [heap_drew] at M); have F := Mem.facts M; simp only [MemFacts] at F; (try simp only [ApartFacts] at F)))
          have M2 := (((M.put4 1 rfl (.int .u64 (l0 x)) (.int .u64 (l1 x)) (.int .u64 (l2 x)) (.int .u64 (l3 x))).put 1 rfl 0 (.int .u64 (bits .or .u64 (l0 x) (d : Int)))).alloc (cs := #[.int .u64 (l0 x), .int .u64 (l1 x), .int .u64 (l2 x), .int .u64 (l3 x)]) (t := 32)).pick [1, 2, 3] (by decide)
          have M3 : Mem w0 _ [.o (w0.heap.size + 1 + 1) (.stringIter s (t + 1)), .c (w0.heap.size + 1) #[.int .u64 (bits .or .u64 (l0 x) (d : Int)), .int .u64 (l1 x), .int .u64 (l2 x), .int .u64 (l3 x)] 32, .c w0.heap.size #[.int .u64 0, .int .u64 0, .int .u64 0, .int .u64 0] 32] := M2
          rw [E4.out] at M3
          refine ⟨⟨t + 1, hlt, by rw [← El.out]; rfl, Ea.out, M3⟩, ?_⟩
          rw [iterPos_at (M3.obj 0 rfl), iterPos_at (HM.out.obj 0 rfl)]
          omega
      | none =>
        have hr : hexd (Utf8.decode s t).1 = none := by
          rcases Nat.lt_or_ge s[t].toNat 128 with h | h
          · rw [decode_ascii s t hlt h]; exact hd
          · exact hexd_high (decode_high s t hlt h).1
        have hnx := fun ty => Lib.run_next_any_at (P := Try.prog) wr _ s t ty hit hlt
        have Hd := Lib.hid hd
        have Hr := Lib.hid hr
        have Htk := Lib.hid htk
        clear hd htk hit F hr
        have M := HM.out.iter 0 rfl (t + (Utf8.decode s t).2)
        dsimp only [List.set_cons_zero] at M
        have ep : parseHex s.data.toList = (0, 2) := by
          have hne : ¬ s.data.toList.all isHex = true := fun h => by
            have := List.all_eq_true.1 h s[t] (List.getElem_mem (l := s.data.toList) (n := t) (by simpa using hlt))
            rw [isHex, Hd.out] at this
            cases this
          unfold parseHex
          rw [if_pos (.inr hne)]
        have Ep := Lib.hid ep
        clear ep
        go_wp2_with (first | (go_at_call 127; (with_reducible refine ((digit_none _ Hr.out) _).mono ?_); rintro e w1 ⟨rfl, hb⟩; replace M := Mem.call (w0 := w0) (by repeat' (first | (with_reducible exact M) | (with_reducible apply Mem.drew) | (with_reducible apply Mem.alloc))) hb; clear hb; (try clear F); (try simp only [World.size_alloc] at M); (try simp only [heap_drew] at M); have F := Mem.facts M; simp only [MemFacts] at F; (try simp only [ApartFacts] at F)))
        rw [Ep.out, ← uV_zero]
        (have hc := fun j => cell_of_row _ _ j _ _ _ ((M.put4 2 rfl (.int .u64 (0)) (.int .u64 (0)) (.int .u64 (0)) (.int .u64 (0))).at 2 rfl); refine bodyPost_ret (v := .tuple #[.agg #[.int .u64 0, .int .u64 0, .int .u64 0, .int .u64 0], .int .i64 2]) (by simp [results, Try.results79, go_sem, hc]) rfl ⟨rfl, (M.put4 2 rfl _ _ _ _).below⟩)
    · obtain rfl : t = s.size := by omega
      have htk : s.data.toList.take s.size = s.data.toList := List.take_of_length_le (by simp)
      have hnx := fun ty => Lib.run_next_end_at (P := Try.prog) wr _ s s.size ty hit (Nat.lt_irrefl _)
      have M := HM.out
      have hN := HN.out
      have hA := Hall.out
      rw [htk] at hN hA
      clear HM HN Hall hit htk
      by_cases h0 : s.data.toList = []
      · have he : s.toList.isEmpty = true := by rw [ByteArray.toList_eq, h0]; rfl
        have Ep : Hid (parseHex s.data.toList = (0, 2)) := by unfold parseHex; rw [if_pos (.inl h0)]; rfl
        clear h0 hN hA
        go_wp2
        rw [Ep.out, ← uV_zero]
        (have hc := fun j => cell_of_row _ _ j _ _ _ ((M.put4 2 rfl (.int .u64 (0)) (.int .u64 (0)) (.int .u64 (0)) (.int .u64 (0))).at 2 rfl); refine bodyPost_ret (v := .tuple #[.agg #[.int .u64 0, .int .u64 0, .int .u64 0, .int .u64 0], .int .i64 2]) (by simp [results, Try.results79, go_sem, hc]) rfl ⟨rfl, (M.put4 2 rfl _ _ _ _).below⟩)
      · have he : s.toList.isEmpty = false := by
          rw [ByteArray.toList_eq]
          cases hl : s.data.toList with
          | nil => exact absurd hl h0
          | cons _ _ => rfl
        have hor : ¬ (s.data.toList = [] ∨ ¬ s.data.toList.all isHex = true) := fun h => h.elim h0 (fun h => h hA)
        by_cases hl : top ≤ n
        · have Ep : Hid (parseHex s.data.toList = (0, 3)) := by unfold parseHex; rw [if_neg hor, if_pos (hN ▸ hl)]; rfl
          have hd : decide (top ≤ n) = true := decide_eq_true hl
          clear h0 hN hA hor hl
          rw [hd]
          clear hd
          go_wp2
          rw [Ep.out, ← uV_zero]
          (have hc := fun j => cell_of_row _ _ j _ _ _ ((M.put4 2 rfl (.int .u64 (0)) (.int .u64 (0)) (.int .u64 (0)) (.int .u64 (0))).at 2 rfl); refine bodyPost_ret (v := .tuple #[.agg #[.int .u64 0, .int .u64 0, .int .u64 0, .int .u64 0], .int .i64 3]) (by simp [results, Try.results79, go_sem, hc]) rfl ⟨rfl, (M.put4 2 rfl _ _ _ _).below⟩)
        · have Ep : Hid (parseHex s.data.toList = (n, 0)) := by unfold parseHex; rw [if_neg hor, if_neg (hN ▸ hl), ← hN]; rfl
          have hd : decide (top ≤ n) = false := decide_eq_false hl
          have hm : Hid (n % top = n) := Nat.mod_eq_of_lt (by omega)
          clear h0 hN hA hor hl
          rw [hm.out] at M F
          rw [hd]
          clear hd
          go_wp2
          rw [Ep.out]
          (have hc := fun j => cell_of_row _ _ j _ _ _ ((M.put4 2 rfl (.int .u64 (l0 n)) (.int .u64 (l1 n)) (.int .u64 (l2 n)) (.int .u64 (l3 n))).at 2 rfl); refine bodyPost_ret (v := .tuple #[uV n, .int .i64 0]) (by simp [results, Try.results79, go_sem, hc]) rfl ⟨rfl, (M.put4 2 rfl _ _ _ _).below⟩)
end Go.Proofs.Ytkgjgdeaclefiaa
