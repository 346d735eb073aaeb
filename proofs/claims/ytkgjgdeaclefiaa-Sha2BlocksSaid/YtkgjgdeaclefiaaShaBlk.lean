/-
  florinlaw02.Sha2Blocks: a sum is its blocks.
-/
import Derived.Test.YtkgjgdeaclefiaaShaCut
namespace Go.Proofs.Ytkgjgdeaclefiaa
open Go Go.Proofs Go.RowKit Go.Flo

/-- Eight cells of eight stored, one by one. -/
theorem Mem_put88 {w0 w : World} {l : List It} (i : Nat) {b : Nat} {y0 y1 y2 y3 y4 y5 y6 y7 : Value} {t : TypeId} (h : Mem w0 w l) (hi : l[i]? = some (.c b #[y0, y1, y2, y3, y4, y5, y6, y7] t)) (x0 x1 x2 x3 x4 x5 x6 x7 : Value) :
    Mem w0 (Flo.put8 w b x0 x1 x2 x3 x4 x5 x6 x7) (l.set i (.c b #[x0, x1, x2, x3, x4, x5, x6, x7] t)) := by
  have e0 : (#[y0, y1, y2, y3, y4, y5, y6, y7].setIfInBounds 0 x0) = #[x0, y1, y2, y3, y4, y5, y6, y7] := by simp
  have h0 := h.put i hi 0 x0
  rw [e0] at h0
  have g0 := set_get (y := .c b #[x0, y1, y2, y3, y4, y5, y6, y7] t) hi
  have e1 : (#[x0, y1, y2, y3, y4, y5, y6, y7].setIfInBounds 1 x1) = #[x0, x1, y2, y3, y4, y5, y6, y7] := by simp
  have h1 := h0.put i g0 1 x1
  rw [e1, List.set_set] at h1
  have g1 := set_get (y := .c b #[x0, x1, y2, y3, y4, y5, y6, y7] t) hi
  have e2 : (#[x0, x1, y2, y3, y4, y5, y6, y7].setIfInBounds 2 x2) = #[x0, x1, x2, y3, y4, y5, y6, y7] := by simp
  have h2 := h1.put i g1 2 x2
  rw [e2, List.set_set] at h2
  have g2 := set_get (y := .c b #[x0, x1, x2, y3, y4, y5, y6, y7] t) hi
  have e3 : (#[x0, x1, x2, y3, y4, y5, y6, y7].setIfInBounds 3 x3) = #[x0, x1, x2, x3, y4, y5, y6, y7] := by simp
  have h3 := h2.put i g2 3 x3
  rw [e3, List.set_set] at h3
  have g3 := set_get (y := .c b #[x0, x1, x2, x3, y4, y5, y6, y7] t) hi
  have e4 : (#[x0, x1, x2, x3, y4, y5, y6, y7].setIfInBounds 4 x4) = #[x0, x1, x2, x3, x4, y5, y6, y7] := by simp
  have h4 := h3.put i g3 4 x4
  rw [e4, List.set_set] at h4
  have g4 := set_get (y := .c b #[x0, x1, x2, x3, x4, y5, y6, y7] t) hi
  have e5 : (#[x0, x1, x2, x3, x4, y5, y6, y7].setIfInBounds 5 x5) = #[x0, x1, x2, x3, x4, x5, y6, y7] := by simp
  have h5 := h4.put i g4 5 x5
  rw [e5, List.set_set] at h5
  have g5 := set_get (y := .c b #[x0, x1, x2, x3, x4, x5, y6, y7] t) hi
  have e6 : (#[x0, x1, x2, x3, x4, x5, y6, y7].setIfInBounds 6 x6) = #[x0, x1, x2, x3, x4, x5, x6, y7] := by simp
  have h6 := h5.put i g5 6 x6
  rw [e6, List.set_set] at h6
  have g6 := set_get (y := .c b #[x0, x1, x2, x3, x4, x5, x6, y7] t) hi
  have e7 : (#[x0, x1, x2, x3, x4, x5, x6, y7].setIfInBounds 7 x7) = #[x0, x1, x2, x3, x4, x5, x6, x7] := by simp
  have h7 := h6.put i g6 7 x7
  rw [e7, List.set_set] at h7
  exact h7
/-- What is read is read alike in each world of the class. -/
theorem rd8_ext {W w : World} {v : Value} {l : List UInt8} (h : Rd8 W v l) (hx : InExt (fun b => b < W.heap.size) W w) : Rd8 w v l := by
  rcases h with h | ⟨h0, b, off, c, hv, hb, hc, hj⟩
  · exact .inl h
  · refine .inr ⟨h0, b, off, c, hv, Nat.lt_of_lt_of_le hb hx.size, hc, fun j hjl => ?_⟩
    rw [← hj j hjl]
    unfold World.cell?
    rw [hx.old b hb]
theorem start_fix : fixS startS = startS := by unfold fixS; rw [if_pos (by rfl)]
theorem writeS_h (la : List UInt8) : (writeS startS la).h = blksV h0L la (la.length / 64) := by unfold writeS; rw [start_fix]; rfl
theorem writeS_rest (la : List UInt8) : (writeS startS la).rest = la.drop (64 * (la.length / 64)) := by unfold writeS; rw [start_fix]; rfl
theorem writeS_len (la : List UInt8) (h : la.length ≤ 300) : (writeS startS la).n = la.length := by
  unfold writeS
  rw [start_fix]
  show (0 + la.length) % 2 ^ 64 = _
  omega
theorem RdS.rd {w : World} {a b c d e f g k : UInt32} {v : Value} {n : Nat} {s : ShaS} (h : RdS w (st10 a b c d e f g k v n) s) : Rd8 w v s.rest := by
  obtain ⟨⟨a', b', c', d', e', f', g', k', v', h1, _, h2⟩, _, _⟩ := h
  simp only [st10, Value.agg.injEq, Array.mk.injEq, List.cons.injEq] at h1
  rw [h1.2.2.2.2.2.2.2.2.1]
  exact h2
/-- A part of what is read. -/
theorem rd_part {w : World} {b off c : Nat} {l : List UInt8} (h : Rd8 w (.slice (some ⟨b, off, none⟩) l.length c) l) (k n : Nat) (hk : k + n ≤ l.length) : Rd8 w (.slice (some ⟨b, off + k, none⟩) n (c - k)) ((l.drop k).take n) := by
  have hlen : ((l.drop k).take n).length = n := by rw [List.length_take, List.length_drop]; omega
  rcases Nat.eq_zero_or_pos n with rfl | h0
  · exact .inl ⟨by simp, _, _, rfl⟩
  · obtain ⟨b', off', e, _, hb, hc, hj⟩ := h.cells (by omega)
    cases e
    refine .inr ⟨by omega, b, off + k, c - k, by rw [hlen], hb, by omega, fun j hjl => ?_⟩
    rw [hlen] at hjl
    rw [Nat.add_assoc, hj (k + j) (by omega), at8_get (by omega), at8_get (by omega)]
    simp
theorem rd_drop {w : World} {p : Option Addr} {c : Nat} {l : List UInt8} (h : Rd8 w (.slice p l.length c) l) (k : Nat) (hk : k ≤ l.length) :
    Rd8 w (.slice (if c = k then p else Option.map (fun x => x.add k) p) (l.length - k) (c - k)) (l.drop k) := by
  have hd : (l.drop k).length = l.length - k := by rw [List.length_drop]
  rcases Nat.eq_or_lt_of_le hk with he | hlt
  · have : l.drop k = [] := List.eq_nil_of_length_eq_zero (by omega)
    rw [this]
    exact .inl ⟨rfl, _, _, by rw [show l.length - k = 0 by omega]⟩
  · obtain ⟨b, off, rfl, _, _, hc, _⟩ := h.cells (by omega)
    rw [if_neg (by omega)]
    have e1 : Option.map (fun x : Addr => x.add k) (some ⟨b, off, none⟩) = some ⟨b, off + k, none⟩ := by
      cases k with
      | zero => simp [Addr.add]
      | succ k => simp [Addr.add]
    rw [e1]
    have := rd_part h k (l.length - k) (by omega)
    rw [List.take_of_length_le (by omega)] at this
    exact this
structure BlR (la : List UInt8) (h : List UInt32) (b6 : Nat) (w0 : World) (n : Value) (wr : World) (j : Nat) : Prop where
  le : 64 * j ≤ la.length
  n : n = .int .i64 ((64 * j : Nat) : Int)
  mem : ∃ a b c d e f p q, blksV h la j = [a, b, c, d, e, f, p, q] ∧
    Mem w0 wr [.c b6 #[.int .u32 (a.toNat : Int), .int .u32 (b.toNat : Int), .int .u32 (c.toNat : Int), .int .u32 (d.toNat : Int), .int .u32 (e.toNat : Int), .int .u32 (f.toNat : Int), .int .u32 (p.toNat : Int), .int .u32 (q.toNat : Int)] 44]
set_option maxRecDepth 100000 in
set_option maxHeartbeats 8000000 in
theorem blocks_main (va vb : Value) (la lb : List UInt8) (w0 : World) (hA : Rd8 w0 va la) (hB : Rd8 w0 vb lb) (ha : la.length ≤ 300) (hb : lb.length ≤ 300) :
    Calls Try.prog 7 #[va, vb] w0 fun e w' => e = .returned (.bool true) ∧ Below w0.heap.size w0 w' := by
  obtain ⟨pa, ca, rfl⟩ := hA.shape
  obtain ⟨pb, cb, rfl⟩ := hB.shape
  have HA := Lib.hid hA
  have HB := Lib.hid hB
  have LA := Lib.hid ha
  have LB := Lib.hid hb
  have ha' : decide (300 < (la.length : Int)) = false := decide_eq_false (by omega)
  have hb' : decide (300 < (lb.length : Int)) = false := decide_eq_false (by omega)
  clear hA hB ha hb
  have A1 := awake2
  obtain ⟨a1, b1, c1, d1, e1, f1, g1, k1, ST, RS, hh0⟩ : ∃ a1 b1 c1 d1 e1 f1 g1 k1, Gives 41 #[] (st10 a1 b1 c1 d1 e1 f1 g1 k1 (.slice none 0 0) 0) ∧ (∀ w, RdS w (st10 a1 b1 c1 d1 e1 f1 g1 k1 (.slice none 0 0) 0) startS) ∧ h0L = [a1, b1, c1, d1, e1, f1, g1, k1] := ⟨_, _, _, _, _, _, _, _, start_c, rdS_start, rfl⟩
  have HH := Lib.hid hh0
  clear hh0
  have FL : ∀ w, (Instr.field 46 (st10 a1 b1 c1 d1 e1 f1 g1 k1 (.slice none 0 0) 0) 0).run Try.prog w = .ok (.agg #[.int .u32 (a1.toNat : Int), .int .u32 (b1.toNat : Int), .int .u32 (c1.toNat : Int), .int .u32 (d1.toNat : Int), .int .u32 (e1.toNat : Int), .int .u32 (f1.toNat : Int), .int .u32 (g1.toNat : Int), .int .u32 (k1.toNat : Int)]) w := fun _ => by kernel_rfl
  have M := Mem.nil w0; have F := Mem.facts M; simp only [MemFacts] at F; (try simp only [ApartFacts] at F)
  go_enter Try.func7, Try.ntmps7
  go_wp2_with (first | (go_at_call 39; (with_reducible refine (A1 _).mono ?_); rintro o w1 ⟨rfl, hb⟩; replace M := Mem.call (w0 := w0) (by repeat' (first | (with_reducible exact M) | (with_reducible apply Mem.drew) | (with_reducible apply Mem.alloc))) hb; clear hb; (try clear F); (try simp only [World.size_alloc] at M); (try simp only [heap_drew] at M); have F := Mem.facts M; simp only [MemFacts] at F; (try simp only [ApartFacts] at F)) | (go_at_call 41; (with_reducible refine (ST _).mono ?_); rintro o w1 ⟨rfl, hb⟩; replace M := Mem.call (w0 := w0) (by repeat' (first | (with_reducible exact M) | (with_reducible apply Mem.drew) | (with_reducible apply Mem.alloc))) hb; clear hb; (try clear F); (try simp only [World.size_alloc] at M); (try simp only [heap_drew] at M); have F := Mem.facts M; simp only [MemFacts] at F; (try simp only [ApartFacts] at F)))
  replace M := Mem.alloc M (cs := #[.int .u32 (a1.toNat : Int), .int .u32 (b1.toNat : Int), .int .u32 (c1.toNat : Int), .int .u32 (d1.toNat : Int), .int .u32 (e1.toNat : Int), .int .u32 (f1.toNat : Int), .int .u32 (g1.toNat : Int), .int .u32 (k1.toNat : Int)]) (t := 44)
  generalize w1.heap.size = b6 at M ⊢
  go_loopw [7] (fun n wr => ∃ j, BlR la [a1, b1, c1, d1, e1, f1, g1, k1] b6 w0 n wr j) (fun n _ => (la.length - intOf n).toNat)
  case atStart => exact ⟨0, by omega, rfl, a1, b1, c1, d1, e1, f1, g1, k1, rfl, M⟩
  case round =>
    clear M F
    obtain ⟨j, le, rfl, a3, b3, c4, d3, e3, f3, g3, k3, hbl, M⟩ := hrel
    have F := Mem.facts M; simp only [MemFacts] at F; (try simp only [ApartFacts] at F)
    obtain ⟨nn, hnn⟩ : ∃ nn, nn = 64 * j := ⟨_, rfl⟩
    rw [← hnn]
    have hn3 : nn ≤ 300 := by have := LA.out; omega
    have HNN := Lib.hid hnn
    clear hnn
    by_cases hlt : nn + 64 ≤ la.length
    · have hlt' : (nn : Int) + 64 ≤ (la.length : Int) := by omega
      obtain ⟨b, off, rfl, _, hbl2, hlc, hj⟩ := HA.out.cells (by omega)
      clear hj
      have R1 : ∀ w, Below wr.heap.size wr w → Rd8 w (.slice (some ⟨b, off + nn, none⟩) 64 (ca - nn)) ((la.drop nn).take 64) := fun w hb => (rd_part HA.out nn 64 (by omega)).below (below_step M.below hb)
      have hq : ((la.drop nn).take 64).length = 64 := by rw [List.length_take, List.length_drop]; omega
      have hn := blksV_succ [a1, b1, c1, d1, e1, f1, g1, k1] la j (by have := HNN.out; omega)
      rw [hbl, ← HNN.out] at hn
      generalize (la.drop nn).take 64 = qb at *
      obtain ⟨a5, b5, c5, d5, e5, f5, g5, k5, h5⟩ := eight_of (blkV_length [a3, b3, c4, d3, e3, f3, g3, k3] qb rfl)
      have BC := fun (w : World) (hb : Below wr.heap.size wr w) => block_c _ qb [a3, b3, c4, d3, e3, f3, g3, k3] rfl w (R1 w hb)
      rw [h5] at BC hn
      simp only [wA8] at BC
      have HN := Lib.hid hn
      have hc64 : nn + 64 ≤ ca := by omega
      clear hn h5 hbl R1
      go_wp2_with (fail)
      ((try simp only [List.append_eq, List.cons_append, List.nil_append]); refine Flo.N.wp_made (by kernel_rfl) (by decide +kernel) ?_; (repeat (first | (refine Flo.N.sx_skip (by exact rfl) (by exact rfl) ?_; simp only [Act.put, List.setIfInBounds_toArray, List.set_cons_zero, List.set_cons_succ]) | (refine Flo.N.sx_pure (by exact rfl) (by exact rfl) (by exact rfl) ?_; intro K hK; go_big_quiet_op; go_big_quiet_on) | (refine Flo.N.sx_free (by exact rfl) (by exact rfl) (by exact rfl) (by exact rfl) ?_; intro K hK; go_big_quiet_op; go_big_quiet_on) | (apply Flo.N.sx_alloc (by exact rfl) (by exact rfl); (focus (intro w; go_simp; first | done | exact rfl | exact ⟨rfl, rfl⟩)); intro b hn hfr; (try have hne := Flo.Fresh.ne hfr); simp only [Act.put, List.setIfInBounds_toArray, List.set_cons_zero, List.set_cons_succ]) | (apply Flo.N.sx_build _ (by exact rfl) (by exact rfl); (focus (intro w; go_simp; first | done | exact rfl | exact ⟨rfl, rfl⟩)); intro b hn hfr; (try have hne := Flo.Fresh.ne hfr); simp only [Act.put, List.setIfInBounds_toArray, List.set_cons_zero, List.set_cons_succ]) | (apply Flo.N.sx_give (by exact rfl) (by exact rfl); (focus (intro w hbW hh; apply Flo.gives_of; intro G hG; go_simp; apply hG _ _ (by kernel_rfl); clear hG G; first | (exact BC _ hbW))); simp only [Act.put, List.setIfInBounds_toArray, List.set_cons_zero, List.set_cons_succ]) | (refine Flo.N.sx_last (by exact rfl) (by exact rfl) ?_; intro w2 hJ K hK; first | (have hJ : Flo.Holds _ _ _ _ := hJ; (try have HJB := Lib.hid hJ.below); (first | (have hu1 := Flo.Holds.uncover (by exact rfl) hJ; have hu2 := Flo.Holds.uncover (by exact rfl) hu1.2; replace M := Flo.N.got2 (w0 := w0) (by repeat' (first | (with_reducible exact M) | (with_reducible apply Mem.drew) | (with_reducible apply Mem.alloc))) hJ.below hu2.1 hu1.1 hne; clear hu1 hu2) | (have hu1 := Flo.Holds.uncover (by exact rfl) hJ; replace M := Mem.got (w0 := w0) (x := .c _ _ _) (by repeat' (first | (with_reducible exact M) | (with_reducible apply Mem.drew) | (with_reducible apply Mem.alloc))) hJ.below hu1.1; clear hu1) | (replace M := Mem.call (w0 := w0) (by repeat' (first | (with_reducible exact M) | (with_reducible apply Mem.drew) | (with_reducible apply Mem.alloc))) hJ.below) | (have hB2 := hJ.below)); clear hJ; (try clear F); (try simp only [World.size_alloc] at M); (try simp only [heap_drew] at M); (try (have F := Mem.facts M; simp only [MemFacts] at F; (try simp only [ApartFacts] at F))); go_wp2_with (fail); (try refine ⟨rfl, ?_⟩)) | (have hJ : w2 = _ := hJ; subst hJ; go_wp2_with (fail); (try refine ⟨rfl, ?_⟩))))); (first | (refine Flo.N.sx_end ?_) | (refine Flo.N.sx_nil ?_; intro w2 hJ; (try have HJB := Lib.hid hJ.below); (first | (have hu1 := Flo.Holds.uncover (by exact rfl) hJ; have hu2 := Flo.Holds.uncover (by exact rfl) hu1.2; replace M := Flo.N.got2 (w0 := w0) (by repeat' (first | (with_reducible exact M) | (with_reducible apply Mem.drew) | (with_reducible apply Mem.alloc))) hJ.below hu2.1 hu1.1 hne; clear hu1 hu2) | (have hu1 := Flo.Holds.uncover (by exact rfl) hJ; replace M := Mem.got (w0 := w0) (x := .c _ _ _) (by repeat' (first | (with_reducible exact M) | (with_reducible apply Mem.drew) | (with_reducible apply Mem.alloc))) hJ.below hu1.1; clear hu1) | (replace M := Mem.call (w0 := w0) (by repeat' (first | (with_reducible exact M) | (with_reducible apply Mem.drew) | (with_reducible apply Mem.alloc))) hJ.below) | (have hB2 := hJ.below)); clear hJ; (try clear F); (try simp only [World.size_alloc] at M); (try simp only [heap_drew] at M); (try (have F := Mem.facts M; simp only [MemFacts] at F; (try simp only [ApartFacts] at F))))))
      have M2 := Mem_put88 0 M rfl (.int .u32 (a5.toNat : Int)) (.int .u32 (b5.toNat : Int)) (.int .u32 (c5.toNat : Int)) (.int .u32 (d5.toNat : Int)) (.int .u32 (e5.toNat : Int)) (.int .u32 (f5.toNat : Int)) (.int .u32 (g5.toNat : Int)) (.int .u32 (k5.toNat : Int))
      go_wp2_with (fail)
      have hx := HNN.out
      refine ⟨⟨j + 1, by omega, by congr 1; omega, a5, b5, c5, d5, e5, f5, g5, k5, HN.out, M2⟩, by simp only [intOf]; omega⟩
    · have hlt' : ¬ ((nn : Int) + 64 ≤ (la.length : Int)) := by omega
      have hj : j = la.length / 64 := by have := HNN.out; omega
      have HBL := Lib.hid hbl
      have HJ := Lib.hid hj
      clear hbl hj
      go_wp2_with (first | (go_at_call 41; (with_reducible refine (ST _).mono ?_); rintro o w1 ⟨rfl, hb⟩; replace M := Mem.call (w0 := w0) (by repeat' (first | (with_reducible exact M) | (with_reducible apply Mem.drew) | (with_reducible apply Mem.alloc))) hb; clear hb; (try clear F); (try simp only [World.size_alloc] at M); (try simp only [heap_drew] at M); have F := Mem.facts M; simp only [MemFacts] at F; (try simp only [ApartFacts] at F)) | (go_at_call 40; (with_reducible refine (write_c (st10 a1 b1 c1 d1 e1 f1 g1 k1 (.slice none 0 0) 0) _ startS la (by have := LA.out; omega) _ (RS _) (HA.out.below (Mem.below (w0 := w0) (by repeat' (first | (with_reducible exact M) | (with_reducible apply Mem.drew) | (with_reducible apply Mem.alloc)))))).mono ?_); rintro o w1 ⟨V3, rfl, hV3, hb⟩; replace M := Mem.call (w0 := w0) (by repeat' (first | (with_reducible exact M) | (with_reducible apply Mem.drew) | (with_reducible apply Mem.alloc))) hb; clear hb; (try clear F); (try simp only [World.size_alloc] at M); (try simp only [heap_drew] at M); have F := Mem.facts M; simp only [MemFacts] at F; (try simp only [ApartFacts] at F); have HV3 := Lib.hid hV3; obtain ⟨⟨a5, b5, c5, d5, e5, f5, g5, k5, u3, rfl, hs3, hr3⟩, hn3, hl3⟩ := hV3; obtain ⟨p3, q3, rfl⟩ := hr3.shape; have HS3 := Lib.hid hs3; clear hr3 hs3 hn3 hl3) | (go_at_call 40; (with_reducible refine (write_c _ _ (writeS startS la) lb (by have := LB.out; omega) _ (HV3.out.alloc _) (HB.out.below (Mem.below (w0 := w0) (by repeat' (first | (with_reducible exact M) | (with_reducible apply Mem.drew) | (with_reducible apply Mem.alloc)))))).mono ?_); rintro o w1 ⟨V4, rfl, hV4, hb⟩; replace HV3 := Lib.hid ((HV3.out.alloc _).below hb); replace M := Mem.call (w0 := w0) (by repeat' (first | (with_reducible exact M) | (with_reducible apply Mem.drew) | (with_reducible apply Mem.alloc))) hb; clear hb; (try clear F); (try simp only [World.size_alloc] at M); (try simp only [heap_drew] at M); have F := Mem.facts M; simp only [MemFacts] at F; (try simp only [ApartFacts] at F); have HV4 := Lib.hid hV4; obtain ⟨⟨a6, b6', c6, d6, e6, f6, g6, k6, u4, rfl, hs4, hr4⟩, hn4, hl4⟩ := hV4; obtain ⟨p4, q4, rfl⟩ := hr4.shape; clear hr4 hs4 hn4 hl4))
      replace M := Mem.alloc M (cs := #[.int .u32 (a6.toNat : Int), .int .u32 (b6'.toNat : Int), .int .u32 (c6.toNat : Int), .int .u32 (d6.toNat : Int), .int .u32 (e6.toNat : Int), .int .u32 (f6.toNat : Int), .int .u32 (g6.toNat : Int), .int .u32 (k6.toNat : Int), .slice p4 (writeS (writeS startS la) lb).rest.length q4, .int .u64 ((writeS (writeS startS la) lb).n : Int)]) (t := 46)
      replace HV3 := Lib.hid (HV3.out.alloc (.cells #[.int .u32 (a6.toNat : Int), .int .u32 (b6'.toNat : Int), .int .u32 (c6.toNat : Int), .int .u32 (d6.toNat : Int), .int .u32 (e6.toNat : Int), .int .u32 (f6.toNat : Int), .int .u32 (g6.toNat : Int), .int .u32 (k6.toNat : Int), .slice p4 (writeS (writeS startS la) lb).rest.length q4, .int .u64 ((writeS (writeS startS la) lb).n : Int)] 46 (0, 0)))
      replace HV4 := Lib.hid (HV4.out.alloc (.cells #[.int .u32 (a6.toNat : Int), .int .u32 (b6'.toNat : Int), .int .u32 (c6.toNat : Int), .int .u32 (d6.toNat : Int), .int .u32 (e6.toNat : Int), .int .u32 (f6.toNat : Int), .int .u32 (g6.toNat : Int), .int .u32 (k6.toNat : Int), .slice p4 (writeS (writeS startS la) lb).rest.length q4, .int .u64 ((writeS (writeS startS la) lb).n : Int)] 46 (0, 0)))
      clear F
      obtain ⟨wg, eg, M, HV3, HV4⟩ : ∃ wg, wg = _ ∧ Mem w0 wg _ ∧ Hid (RdS wg _ _) ∧ Hid (RdS wg _ _) := ⟨_, rfl, M, HV3, HV4⟩
      rw [← eg]
      clear eg
      have HM := M.below
      have hw3 := HS3.out
      rw [writeS_h, HH.out, ← HJ.out, HBL.out] at hw3
      simp only [List.cons.injEq, and_true] at hw3
      obtain ⟨rfl, rfl, rfl, rfl, rfl, rfl, rfl, rfl⟩ := hw3
      have n3 := writeS_len la LA.out
      have r3 := writeS_rest la
      have n4 : (writeS (writeS startS la) lb).n = la.length + lb.length := by
        rw [writeS_two]
        have := LA.out
        have := LB.out
        unfold writeS
        rw [start_fix]
        show (0 + (la ++ lb).length) % 2 ^ 64 = _
        rw [List.length_append]
        omega
      rw [← HJ.out, ← HNN.out] at r3
      have l3 : (writeS startS la).rest.length = la.length - nn := by rw [r3, List.length_drop]
      have E8 := fun w => run_equalIn_wA (P := Try.prog) w 9998 8 44 43 [a3, b3, c4, d3, e3, f3, g3, k3] [a3, b3, c4, d3, e3, f3, g3, k3] rfl rfl Try.underlying44 Try.underlying43 (by kernel_rfl)
      rw [wA8, show (([a3, b3, c4, d3, e3, f3, g3, k3] : List UInt32) == [a3, b3, c4, d3, e3, f3, g3, k3]) = true by simp] at E8
      have R3 := HV3.out.rd
      rw [l3, r3] at R3
      have hcv : ∀ x : Ext (fun b => b < wg.heap.size) wg, (convert 42 9 (.slice p3 (la.length - nn) q3)).run Try.prog x.1 = .ok (.string ⟨(la.drop nn).toArray⟩) x.1 := fun x => rd8_string Try.underlying42 Try.underlying5 Try.underlying9 (rd8_ext R3 x.2)
      have R4 := rd_drop (HA.out.below HM) nn (by have := HNN.out; omega)
      have hcv4 : ∀ x : Ext (fun b => b < wg.heap.size) wg, (convert 42 9 (.slice (if ca = nn then pa else Option.map (fun x => x.add nn) pa) (la.length - nn) (ca - nn))).run Try.prog x.1 = .ok (.string ⟨(la.drop nn).toArray⟩) x.1 := fun x => rd8_string Try.underlying42 Try.underlying5 Try.underlying9 (by have := rd8_ext R4 x.2; exact this)
      rw [n3, n4, l3]
      have F := Mem.facts M; simp only [MemFacts] at F; (try simp only [ApartFacts] at F)
      have hn4 : (nn : Int) ≤ (la.length : Int) := by have := HNN.out; omega
      have h64 : ((la.length - nn : Nat) : Int) < 64 := by have := HNN.out; omega
      have hla : la.length ≤ 300 := LA.out
      have hlb : lb.length ≤ 300 := LB.out
      have WN := fun w => write_c _ (.slice none 0 0) startS [] (by decide) w (RS w) (rd8_nil _ _ _)
      have T0 := fun w => theirs_c _ startS w (RS w)
      have TT := fun V w (h : RdS w V startS) => theirs_c V _ w h
      have MM := fun V w (h : RdS w V startS) => same_c V _ _ _ w h (RS w)
      rw [show writeS startS [] = startS from writeS_nil startS rfl (by decide)] at WN
      simp only [sameS_refl] at MM
      rcases Nat.decEq ca nn with hcn | hcn
      · rw [if_neg hcn] at hcv4
        clear R4
        (refine Flo.wp_region_held (fun b => b < wg.heap.size) (by kernel_rfl) (by decide +kernel) ?_; repeat (first | (refine Flo.au_skip (by exact rfl) (by exact rfl) ?_; simp only [Act.put, List.setIfInBounds_toArray, List.set_cons_zero, List.set_cons_succ]) | (refine Flo.hx_free (by exact rfl) (by exact rfl) (by exact rfl) ?_; intro K hK; go_big_quiet_op; go_big_quiet_on) | (refine Flo.au_move (by exact rfl) (by exact rfl) ?_; intro K hK; go_wp2_with ((first | (go_at_call 41; (with_reducible refine (ST _).mono ?_); rintro o w5 ⟨rfl, hbK⟩; (try replace hV5 := hV5.below hbK)) | (go_at_call 40; (with_reducible refine (WN _).mono ?_); rintro o w5 ⟨V5, rfl, hV5, hbK⟩) | (go_at_call 45; (with_reducible refine (TT _ _ hV5).mono ?_); rintro o w5 ⟨rfl, hbK⟩; replace hV5 := hV5.below hbK) | (go_at_call 45; (with_reducible refine (T0 _).mono ?_); rintro o w5 ⟨rfl, hbK⟩; replace hV5 := hV5.below hbK) | (go_at_call 44; (with_reducible refine (MM _ _ hV5).mono ?_); rintro o w5 ⟨rfl, hbK⟩))); refine ⟨(by repeat' (first | (with_reducible assumption) | (with_reducible exact InExt.refl _ _) | (with_reducible refine InExt.drew ?_) | (with_reducible refine InExt.alloc ?_ ?_ _) | (with_reducible refine InExt.setCell ?_ ?_ _) | (with_reducible refine InExt.below ?_ ?_ (by assumption)) | (simp; done) | (simp; omega))), ?_⟩) | (refine Flo.mix_nil ?_)))
        have BZ : Below wg.heap.size wg w5 := by repeat' (first | (with_reducible exact Below.refl _ _) | (with_reducible assumption) | (with_reducible refine Below.drew ?_) | (with_reducible refine Below.alloc ?_ ?_ _) | (with_reducible refine Below.setCell ?_ ?_ _) | (with_reducible refine Flo.below_step ?_ (by assumption)) | (simp; done) | (simp; omega))
        have BF := below_step HM BZ
        clear BZ
        go_wp2
        go_ret
        exact ⟨rfl, BF⟩
      · rw [if_pos hcn] at hcv4
        clear R4
        subst hcn
        simp only [Nat.sub_self] at hcv4
        (refine Flo.wp_region_held (fun b => b < wg.heap.size) (by kernel_rfl) (by decide +kernel) ?_; repeat (first | (refine Flo.au_skip (by exact rfl) (by exact rfl) ?_; simp only [Act.put, List.setIfInBounds_toArray, List.set_cons_zero, List.set_cons_succ]) | (refine Flo.hx_free (by exact rfl) (by exact rfl) (by exact rfl) ?_; intro K hK; go_big_quiet_op; go_big_quiet_on) | (refine Flo.au_move (by exact rfl) (by exact rfl) ?_; intro K hK; go_wp2_with ((first | (go_at_call 41; (with_reducible refine (ST _).mono ?_); rintro o w5 ⟨rfl, hbK⟩; (try replace hV5 := hV5.below hbK)) | (go_at_call 40; (with_reducible refine (WN _).mono ?_); rintro o w5 ⟨V5, rfl, hV5, hbK⟩) | (go_at_call 45; (with_reducible refine (TT _ _ hV5).mono ?_); rintro o w5 ⟨rfl, hbK⟩; replace hV5 := hV5.below hbK) | (go_at_call 45; (with_reducible refine (T0 _).mono ?_); rintro o w5 ⟨rfl, hbK⟩; replace hV5 := hV5.below hbK) | (go_at_call 44; (with_reducible refine (MM _ _ hV5).mono ?_); rintro o w5 ⟨rfl, hbK⟩))); refine ⟨(by repeat' (first | (with_reducible assumption) | (with_reducible exact InExt.refl _ _) | (with_reducible refine InExt.drew ?_) | (with_reducible refine InExt.alloc ?_ ?_ _) | (with_reducible refine InExt.setCell ?_ ?_ _) | (with_reducible refine InExt.below ?_ ?_ (by assumption)) | (simp; done) | (simp; omega))), ?_⟩) | (refine Flo.mix_nil ?_)))
        have BZ : Below wg.heap.size wg w5 := by repeat' (first | (with_reducible exact Below.refl _ _) | (with_reducible assumption) | (with_reducible refine Below.drew ?_) | (with_reducible refine Below.alloc ?_ ?_ _) | (with_reducible refine Below.setCell ?_ ?_ _) | (with_reducible refine Flo.below_step ?_ (by assumption)) | (simp; done) | (simp; omega))
        have BF := below_step HM BZ
        clear BZ
        go_wp2
        go_ret
        exact ⟨rfl, BF⟩
end Go.Proofs.Ytkgjgdeaclefiaa
