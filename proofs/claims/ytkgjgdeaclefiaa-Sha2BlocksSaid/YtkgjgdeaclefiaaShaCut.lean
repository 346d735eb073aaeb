/-
  florinlaw02.Sha2Cut: however a text is cut its sum is the same.
-/
import Derived.Test.YtkgjgdeaclefiaaShaJ
import Derived.Test.YtkgjgdeaclefiaaLft
namespace Go.Proofs.Ytkgjgdeaclefiaa
open Go Go.Proofs Go.RowKit Go.Flo

theorem blksV_length (h : List UInt32) (hh : h.length = 8) (l : List UInt8) (j : Nat) : (blksV h l j).length = 8 := by
  induction j generalizing h l with
  | zero => exact hh
  | succ j ih => exact ih _ (blkV_length h _ hh) _
theorem blksV_add (h : List UInt32) (l : List UInt8) (i j : Nat) : blksV h l (i + j) = blksV (blksV h l i) (l.drop (64 * i)) j := by
  induction i generalizing h l with
  | zero => simp [blksV]
  | succ i ih =>
    rw [show i + 1 + j = (i + j) + 1 by omega]
    show blksV (blkV h (l.take 64)) (l.drop 64) (i + j) = _
    rw [ih, List.drop_drop, show 64 + 64 * i = 64 * (i + 1) by omega]
    rfl
theorem blksV_pre (h : List UInt32) (l m : List UInt8) (j : Nat) (hj : 64 * j ≤ l.length) : blksV h (l ++ m) j = blksV h l j := by
  induction j generalizing h l with
  | zero => rfl
  | succ j ih =>
    show blksV (blkV h ((l ++ m).take 64)) ((l ++ m).drop 64) j = blksV (blkV h (l.take 64)) (l.drop 64) j
    rw [List.take_append_of_le_length (by omega), List.drop_append_of_le_length (by omega), ih _ _ (by rw [List.length_drop]; omega)]
theorem eatS_rest (h : List UInt32) (n : Nat) (l : List UInt8) : (eatS h n l).rest.length = l.length % 64 := by
  unfold eatS
  show (l.drop _).length = _
  rw [List.length_drop]
  omega
/-- Written in two parts. -/
theorem writeS_two (s : ShaS) (a b : List UInt8) : writeS (writeS s a) b = writeS s (a ++ b) := by
  obtain ⟨t, ht⟩ : ∃ t, t = fixS s := ⟨_, rfl⟩
  have hs : t.rest.length = t.n % 64 := by
    rw [ht]
    unfold fixS
    split
    · rename_i h; exact of_decide_eq_true h
    · rfl
  have h1 : writeS s a = eatS t.h ((t.n + a.length) % 2 ^ 64) (t.rest ++ a) := by unfold writeS; rw [← ht]
  have h2 : fixS (writeS s a) = writeS s a := by
    unfold fixS
    rw [if_pos]
    unfold saneS
    rw [decide_eq_true_eq, h1, eatS_rest]
    show _ = ((t.n + a.length) % 2 ^ 64) % 64
    rw [List.length_append]
    omega
  have h3 : writeS s (a ++ b) = eatS t.h ((t.n + (a ++ b).length) % 2 ^ 64) (t.rest ++ (a ++ b)) := by unfold writeS; rw [← ht]
  rw [h3]
  unfold writeS at h2 ⊢
  rw [h2, ← ht]
  generalize hx : t.rest ++ a = x
  rw [← List.append_assoc, hx]
  unfold eatS
  have e1 : (x ++ b).length / 64 = x.length / 64 + (x.drop (64 * (x.length / 64)) ++ b).length / 64 := by
    rw [List.length_append, List.length_append, List.length_drop]
    omega
  have e2 : (x ++ b).drop (64 * (x.length / 64)) = x.drop (64 * (x.length / 64)) ++ b := List.drop_append_of_le_length (by omega)
  simp only [ShaS.mk.injEq]
  refine ⟨?_, ?_, ?_⟩
  · rw [e1, blksV_add, e2, blksV_pre t.h x b (x.length / 64) (by omega)]
  · rw [e1, Nat.mul_add, ← List.drop_drop, e2]
  · rw [List.length_append]; omega
theorem writeS_nil (s : ShaS) (h : saneS s = true) (hn : s.n < 2 ^ 64) : writeS s [] = s := by
  have hs : s.rest.length = s.n % 64 := of_decide_eq_true h
  have hf : fixS s = s := by unfold fixS; rw [if_pos h]
  unfold writeS
  rw [hf, List.append_nil]
  unfold eatS
  have e : s.rest.length / 64 = 0 := by omega
  rw [e, Nat.mul_zero, List.drop_zero, List.length_nil, Nat.add_zero, Nat.mod_eq_of_lt hn]
  rfl
theorem writeS_sane (s : ShaS) (a : List UInt8) : saneS (writeS s a) = true := by
  obtain ⟨t, ht⟩ : ∃ t, t = fixS s := ⟨_, rfl⟩
  have hs : t.rest.length = t.n % 64 := by
    rw [ht]
    unfold fixS
    split
    · rename_i h; exact of_decide_eq_true h
    · rfl
  unfold saneS writeS
  rw [← ht, decide_eq_true_eq, eatS_rest]
  show _ = ((t.n + a.length) % 2 ^ 64) % 64
  rw [List.length_append]
  omega
theorem writeS_n (s : ShaS) (a : List UInt8) : (writeS s a).n < 2 ^ 64 := Nat.mod_lt _ (by decide)
theorem cut_all (la lb lc : List UInt8) : writeS (writeS (writeS startS la) lb) lc = writeS startS (la ++ lb ++ lc) := by rw [writeS_two, writeS_two, ← List.append_assoc]
theorem RdS.alloc {w : World} {V : Value} {s : ShaS} (h : RdS w V s) (o : Obj) : RdS (w.alloc o) V s := h.below ((Below.refl _ _).alloc (Nat.le_refl _) _)
set_option maxRecDepth 100000 in
set_option maxHeartbeats 8000000 in
theorem cut_main (va vb vc : Value) (la lb lc : List UInt8) (w0 : World) (hA : Rd8 w0 va la) (hB : Rd8 w0 vb lb) (hC : Rd8 w0 vc lc) (ha : la.length ≤ 300) (hb : lb.length ≤ 300) (hc : lc.length ≤ 300) :
    Calls Try.prog 5 #[va, vb, vc] w0 fun e w' => e = .returned (.bool true) ∧ Below w0.heap.size w0 w' := by
  obtain ⟨i0, HI⟩ := info8
  obtain ⟨pa, ca, rfl⟩ := hA.shape
  obtain ⟨pb, cb, rfl⟩ := hB.shape
  obtain ⟨pc, cc, rfl⟩ := hC.shape
  have HA := Lib.hid hA
  have HB := Lib.hid hB
  have HC := Lib.hid hC
  have LA := Lib.hid ha
  have LB := Lib.hid hb
  have LC := Lib.hid hc
  have ha' : decide (300 < (la.length : Int)) = false := decide_eq_false (by omega)
  have hb' : decide (300 < (lb.length : Int)) = false := decide_eq_false (by omega)
  have hc' : decide (300 < (lc.length : Int)) = false := decide_eq_false (by omega)
  clear hA hB hC ha hb hc
  have A1 := awake2
  obtain ⟨V0, ST, RS⟩ : ∃ V0, Gives 41 #[] V0 ∧ ∀ w, RdS w V0 startS := ⟨startC, start_c, rdS_start⟩
  have CA := Lib.hid (cut_all la lb lc)
  have M := Mem.nil w0; have F := Mem.facts M; simp only [MemFacts] at F; (try simp only [ApartFacts] at F)
  go_enter Try.func5, Try.ntmps5
  go_wp2_with (first | (go_at_call 39; (with_reducible refine (A1 _).mono ?_); rintro o w1 ⟨rfl, hb⟩; replace M := Mem.call (w0 := w0) (by repeat' (first | (with_reducible exact M) | (with_reducible apply Mem.drew) | (with_reducible apply Mem.alloc))) hb; clear hb; (try clear F); (try simp only [World.size_alloc] at M); (try simp only [heap_drew] at M); have F := Mem.facts M; simp only [MemFacts] at F; (try simp only [ApartFacts] at F)) | (at_builtin; refine wl_append8 (w0 := w0) 0 (Mem.owned (w0 := w0) 0 0 0 1 (Mem.alloc M) (by rfl) (by decide) (by decide) (by rfl)) rfl rfl (.tmp 26) (.tmp 27) 42 rfl i0 Try.underlying42 HI.out.1 HI.out.2.1 HI.out.2.2.1 HI.out.2.2.2 rfl _ rfl la (HA.out.below (Mem.below (Mem.owned (w0 := w0) 0 0 0 1 (Mem.alloc M) (by rfl) (by decide) (by decide) (by rfl)))) (by have := LA.out; have := LB.out; have := LC.out; omega) ?_; clear M; intro v1 w2 M; simp only [List.set_cons_zero] at M) | (at_builtin; refine wl_append8 (w0 := w0) 0 M rfl rfl (.tmp 29) (.tmp 30) 42 rfl i0 Try.underlying42 HI.out.1 HI.out.2.1 HI.out.2.2.1 HI.out.2.2.2 rfl _ rfl lb (HB.out.below (Mem.below M)) (by have := LA.out; have := LB.out; have := LC.out; omega) ?_; clear M; intro v2 w3 M; simp only [List.set_cons_zero] at M) | (at_builtin; refine wl_append8 (w0 := w0) 0 M rfl rfl (.tmp 32) (.tmp 33) 42 rfl i0 Try.underlying42 HI.out.1 HI.out.2.1 HI.out.2.2.1 HI.out.2.2.2 rfl _ rfl lc (HC.out.below (Mem.below M)) (by have := LA.out; have := LB.out; have := LC.out; omega) ?_; clear M; intro v3 w4 M; simp only [List.set_cons_zero] at M))
  have M3 : Mem w0 w4 [.s v3 5 1 (la ++ lb ++ lc).length ((la ++ lb ++ lc).map fun x => Value.int .u8 (x.toNat : Int))] := by
    rw [List.map_append, List.map_append, List.length_append, List.length_append]
    simpa using M
  have hal : (la ++ lb ++ lc).length ≤ 900 := by have := LA.out; have := LB.out; have := LC.out; rw [List.length_append, List.length_append]; omega
  have LL := Lib.hid hal
  clear M F hal
  generalize la ++ lb ++ lc = all at *
  have M := M3
  clear M3
  have F := Mem.facts M; simp only [MemFacts] at F; (try simp only [ApartFacts] at F)
  go_wp2_with (first | (go_at_call 41; (with_reducible refine (ST _).mono ?_); rintro o w1 ⟨rfl, hb⟩; (try replace HV3 := Lib.hid ((HV3.out.alloc _).below hb)); replace M := Mem.call (w0 := w0) (by repeat' (first | (with_reducible exact M) | (with_reducible apply Mem.drew) | (with_reducible apply Mem.alloc))) hb; clear hb; (try clear F); (try simp only [World.size_alloc] at M); (try simp only [heap_drew] at M); have F := Mem.facts M; simp only [MemFacts] at F; (try simp only [ApartFacts] at F)) | (go_at_call 40; (with_reducible refine (write_c V0 _ startS la (by have := LA.out; have := LB.out; have := LC.out; omega) _ (RS _) (HA.out.below (Mem.below (w0 := w0) (by repeat' (first | (with_reducible exact M) | (with_reducible apply Mem.drew) | (with_reducible apply Mem.alloc)))))).mono ?_); rintro o w1 ⟨V1, rfl, hV1, hb⟩; replace M := Mem.call (w0 := w0) (by repeat' (first | (with_reducible exact M) | (with_reducible apply Mem.drew) | (with_reducible apply Mem.alloc))) hb; clear hb; (try clear F); (try simp only [World.size_alloc] at M); (try simp only [heap_drew] at M); have F := Mem.facts M; simp only [MemFacts] at F; (try simp only [ApartFacts] at F)) | (go_at_call 40; (with_reducible refine (write_c V1 _ (writeS startS la) lb (by have := LA.out; have := LB.out; have := LC.out; omega) _ hV1 (HB.out.below (Mem.below (w0 := w0) (by repeat' (first | (with_reducible exact M) | (with_reducible apply Mem.drew) | (with_reducible apply Mem.alloc)))))).mono ?_); rintro o w1 ⟨V2, rfl, hV2, hb⟩; replace M := Mem.call (w0 := w0) (by repeat' (first | (with_reducible exact M) | (with_reducible apply Mem.drew) | (with_reducible apply Mem.alloc))) hb; clear hb; (try clear F); (try simp only [World.size_alloc] at M); (try simp only [heap_drew] at M); have F := Mem.facts M; simp only [MemFacts] at F; (try simp only [ApartFacts] at F); clear hV1) | (go_at_call 40; (with_reducible refine (write_c V2 _ (writeS (writeS startS la) lb) lc (by have := LA.out; have := LB.out; have := LC.out; omega) _ hV2 (HC.out.below (Mem.below (w0 := w0) (by repeat' (first | (with_reducible exact M) | (with_reducible apply Mem.drew) | (with_reducible apply Mem.alloc)))))).mono ?_); rintro o w1 ⟨V3, rfl, hV3, hb⟩; replace M := Mem.call (w0 := w0) (by repeat' (first | (with_reducible exact M) | (with_reducible apply Mem.drew) | (with_reducible apply Mem.alloc))) hb; clear hb; (try clear F); (try simp only [World.size_alloc] at M); (try simp only [heap_drew] at M); have F := Mem.facts M; simp only [MemFacts] at F; (try simp only [ApartFacts] at F); clear hV2; rw [CA.out] at hV3; have HV3 := Lib.hid hV3; obtain ⟨⟨a3, b3, c3, d3, e3, f3, g3, k3, u3, rfl, hs3, hr3⟩, hn3, hl3⟩ := hV3; obtain ⟨p3, q3, rfl⟩ := hr3.shape; clear hr3 hs3 hn3 hl3) | (go_at_call 40; have HRD := Mem.rdOwn (w0 := w0) 1 M rfl; (with_reducible refine (write_c V0 v3 startS all (by have := LL.out; omega) _ (RS _) HRD).mono ?_); clear HRD; rintro o w1 ⟨V4, rfl, hV4, hb⟩; replace HV3 := Lib.hid (HV3.out.below hb); replace M := Mem.call (w0 := w0) (by repeat' (first | (with_reducible exact M) | (with_reducible apply Mem.drew) | (with_reducible apply Mem.alloc))) hb; clear hb; (try clear F); (try simp only [World.size_alloc] at M); (try simp only [heap_drew] at M); have F := Mem.facts M; simp only [MemFacts] at F; (try simp only [ApartFacts] at F); have HV4 := Lib.hid hV4; obtain ⟨⟨a4, b4, c4, d4, e4, f4, g4, k4, u4, rfl, hs4, hr4⟩, hn4, hl4⟩ := hV4; obtain ⟨p4, q4, rfl⟩ := hr4.shape; clear hr4 hs4 hn4 hl4))
  have hl1 : (endS (writeS startS all)).length = 32 := outV_length _
  have hsn := writeS_sane startS all
  have hnil := writeS_nil (writeS startS all) hsn (writeS_n startS all)
  have hsm := sameS_refl (writeS startS all)
  replace M := Mem.alloc M (cs := #[.int .u32 (a4.toNat : Int), .int .u32 (b4.toNat : Int), .int .u32 (c4.toNat : Int), .int .u32 (d4.toNat : Int), .int .u32 (e4.toNat : Int), .int .u32 (f4.toNat : Int), .int .u32 (g4.toNat : Int), .int .u32 (k4.toNat : Int), .slice p4 (writeS startS all).rest.length q4, .int .u64 ((writeS startS all).n : Int)]) (t := 46)
  replace HV3 := Lib.hid (HV3.out.alloc (.cells #[.int .u32 (a4.toNat : Int), .int .u32 (b4.toNat : Int), .int .u32 (c4.toNat : Int), .int .u32 (d4.toNat : Int), .int .u32 (e4.toNat : Int), .int .u32 (f4.toNat : Int), .int .u32 (g4.toNat : Int), .int .u32 (k4.toNat : Int), .slice p4 (writeS startS all).rest.length q4, .int .u64 ((writeS startS all).n : Int)] 46 (0, 0)))
  replace HV4 := Lib.hid (HV4.out.alloc (.cells #[.int .u32 (a4.toNat : Int), .int .u32 (b4.toNat : Int), .int .u32 (c4.toNat : Int), .int .u32 (d4.toNat : Int), .int .u32 (e4.toNat : Int), .int .u32 (f4.toNat : Int), .int .u32 (g4.toNat : Int), .int .u32 (k4.toNat : Int), .slice p4 (writeS startS all).rest.length q4, .int .u64 ((writeS startS all).n : Int)] 46 (0, 0)))
  clear F
  obtain ⟨wg, eg, M, HV3, HV4⟩ : ∃ wg, wg = _ ∧ Mem w0 wg _ ∧ Hid (RdS wg _ _) ∧ Hid (RdS wg _ _) := ⟨_, rfl, M, HV3, HV4⟩
  rw [← eg]
  clear eg
  have HRD := Mem.rdOwn 2 M rfl
  have HM := M.below
  have F := Mem.facts M; simp only [MemFacts] at F; (try simp only [ApartFacts] at F)
  have E3 := fun w (hb : Below wg.heap.size wg w) => end_c _ _ w (HV3.out.below hb)
  have E4 := fun w (hb : Below wg.heap.size wg w) => end_c _ _ w (HV4.out.below hb)
  have T3 := fun w (hb : Below wg.heap.size wg w) => theirs_c _ _ w (HV3.out.below hb)
  have T4 := fun w (hb : Below wg.heap.size wg w) => theirs_c _ _ w (HV4.out.below hb)
  have S3 := fun w (hb : Below wg.heap.size wg w) => sane_c _ _ w (HV3.out.below hb)
  have M34 := fun w (hb : Below wg.heap.size wg w) => same_c _ _ _ _ w (HV3.out.below hb) (HV4.out.below hb)
  have U3 := fun w (hb : Below wg.heap.size wg w) => sum_c v3 all (by have := LL.out; omega) w (HRD.below hb)
  have W3 := fun w (hb : Below wg.heap.size wg w) => write_c _ (.slice none 0 0) _ [] (by decide) w (HV3.out.below hb) (rd8_nil _ _ _)
  have TT := fun V w (h : RdS w V (writeS startS all)) => theirs_c V _ w h
  have MM := fun V w (h : RdS w V (writeS startS all)) (hb : Below wg.heap.size wg w) => same_c V _ _ _ w h (HV3.out.below hb)
  rw [hsn] at S3
  simp only [hsm] at M34 MM
  simp only [hnil] at W3
  unfold sumV at U3
  generalize endS (writeS startS all) = hh at *
  clear HRD hsn hnil hsm HA HB HC LA LB LC LL CA RS ST A1
  (refine Flo.wp_region_held (fun b => b < wg.heap.size) (by kernel_rfl) (by decide +kernel) ?_; repeat (first | (refine Flo.au_skip (by exact rfl) (by exact rfl) ?_; simp only [Act.put, List.setIfInBounds_toArray, List.set_cons_zero, List.set_cons_succ]) | (refine Flo.hx_free (by exact rfl) (by exact rfl) (by exact rfl) ?_; intro K hK; go_big_quiet_op; go_big_quiet_on) | (refine Flo.au_move (by exact rfl) (by exact rfl) ?_; intro K hK; go_wp2_with ((first | (go_at_call 42; (with_reducible refine (E3 _ (by repeat' (first | (with_reducible exact Below.refl _ _) | (with_reducible assumption) | (with_reducible refine Below.drew ?_) | (with_reducible refine Below.alloc ?_ ?_ _) | (with_reducible refine Below.setCell ?_ ?_ _) | (with_reducible refine Flo.below_step ?_ (by assumption)) | (simp; done) | (simp; omega)))).mono ?_); rintro o w5 ⟨rfl, hbK⟩; (try replace hV5 := hV5.below hbK)) | (go_at_call 42; (with_reducible refine (E4 _ (by repeat' (first | (with_reducible exact Below.refl _ _) | (with_reducible assumption) | (with_reducible refine Below.drew ?_) | (with_reducible refine Below.alloc ?_ ?_ _) | (with_reducible refine Below.setCell ?_ ?_ _) | (with_reducible refine Flo.below_step ?_ (by assumption)) | (simp; done) | (simp; omega)))).mono ?_); rintro o w5 ⟨rfl, hbK⟩; (try replace hV5 := hV5.below hbK)) | (go_at_call 43; (with_reducible refine (U3 _ (by repeat' (first | (with_reducible exact Below.refl _ _) | (with_reducible assumption) | (with_reducible refine Below.drew ?_) | (with_reducible refine Below.alloc ?_ ?_ _) | (with_reducible refine Below.setCell ?_ ?_ _) | (with_reducible refine Flo.below_step ?_ (by assumption)) | (simp; done) | (simp; omega)))).mono ?_); rintro o w5 ⟨rfl, hbK⟩; (try replace hV5 := hV5.below hbK)) | (go_at_call 45; (with_reducible refine (T3 _ (by repeat' (first | (with_reducible exact Below.refl _ _) | (with_reducible assumption) | (with_reducible refine Below.drew ?_) | (with_reducible refine Below.alloc ?_ ?_ _) | (with_reducible refine Below.setCell ?_ ?_ _) | (with_reducible refine Flo.below_step ?_ (by assumption)) | (simp; done) | (simp; omega)))).mono ?_); rintro o w5 ⟨rfl, hbK⟩; (try replace hV5 := hV5.below hbK)) | (go_at_call 45; (with_reducible refine (T4 _ (by repeat' (first | (with_reducible exact Below.refl _ _) | (with_reducible assumption) | (with_reducible refine Below.drew ?_) | (with_reducible refine Below.alloc ?_ ?_ _) | (with_reducible refine Below.setCell ?_ ?_ _) | (with_reducible refine Flo.below_step ?_ (by assumption)) | (simp; done) | (simp; omega)))).mono ?_); rintro o w5 ⟨rfl, hbK⟩; (try replace hV5 := hV5.below hbK)) | (go_at_call 45; (with_reducible refine (TT _ _ hV5).mono ?_); rintro o w5 ⟨rfl, hbK⟩; (try replace hV5 := hV5.below hbK)) | (go_at_call 44; (with_reducible refine (M34 _ (by repeat' (first | (with_reducible exact Below.refl _ _) | (with_reducible assumption) | (with_reducible refine Below.drew ?_) | (with_reducible refine Below.alloc ?_ ?_ _) | (with_reducible refine Below.setCell ?_ ?_ _) | (with_reducible refine Flo.below_step ?_ (by assumption)) | (simp; done) | (simp; omega)))).mono ?_); rintro o w5 ⟨rfl, hbK⟩; (try replace hV5 := hV5.below hbK)) | (go_at_call 44; (with_reducible refine (MM _ _ hV5 (by repeat' (first | (with_reducible exact Below.refl _ _) | (with_reducible assumption) | (with_reducible refine Below.drew ?_) | (with_reducible refine Below.alloc ?_ ?_ _) | (with_reducible refine Below.setCell ?_ ?_ _) | (with_reducible refine Flo.below_step ?_ (by assumption)) | (simp; done) | (simp; omega)))).mono ?_); rintro o w5 ⟨rfl, hbK⟩; (try replace hV5 := hV5.below hbK)) | (go_at_call 46; (with_reducible refine (S3 _ (by repeat' (first | (with_reducible exact Below.refl _ _) | (with_reducible assumption) | (with_reducible refine Below.drew ?_) | (with_reducible refine Below.alloc ?_ ?_ _) | (with_reducible refine Below.setCell ?_ ?_ _) | (with_reducible refine Flo.below_step ?_ (by assumption)) | (simp; done) | (simp; omega)))).mono ?_); rintro o w5 ⟨rfl, hbK⟩; (try replace hV5 := hV5.below hbK)) | (go_at_call 40; (with_reducible refine (W3 _ (by repeat' (first | (with_reducible exact Below.refl _ _) | (with_reducible assumption) | (with_reducible refine Below.drew ?_) | (with_reducible refine Below.alloc ?_ ?_ _) | (with_reducible refine Below.setCell ?_ ?_ _) | (with_reducible refine Flo.below_step ?_ (by assumption)) | (simp; done) | (simp; omega)))).mono ?_); rintro o w5 ⟨V5, rfl, hV5, hbK⟩))); refine ⟨(by repeat' (first | (with_reducible assumption) | (with_reducible exact InExt.refl _ _) | (with_reducible refine InExt.drew ?_) | (with_reducible refine InExt.alloc ?_ ?_ _) | (with_reducible refine InExt.setCell ?_ ?_ _) | (with_reducible refine InExt.below ?_ ?_ (by assumption)) | (simp; done) | (simp; omega))), ?_⟩) | (refine Flo.mix_nil ?_)))
  have BZ : Below wg.heap.size wg w5 := by repeat' (first | (with_reducible exact Below.refl _ _) | (with_reducible assumption) | (with_reducible refine Below.drew ?_) | (with_reducible refine Below.alloc ?_ ?_ _) | (with_reducible refine Below.setCell ?_ ?_ _) | (with_reducible refine Flo.below_step ?_ (by assumption)) | (simp; done) | (simp; omega))
  have BF := below_step HM BZ
  clear BZ
  go_wp2
  go_ret
  exact ⟨rfl, BF⟩
theorem cut_walk (w0 : World) (va : Value) (la : List UInt8) (vb : Value) (lb : List UInt8) (vc : Value) (lc : List UInt8) (hA : Rd8 w0 va la) (hB : Rd8 w0 vb lb) (hC : Rd8 w0 vc lc) :
    Calls Try.prog 5 #[va, vb, vc] w0 fun e w' => e = .returned (.bool true) ∧ Below w0.heap.size w0 w' := by
  by_cases hall : la.length ≤ 300 ∧ lb.length ≤ 300 ∧ lc.length ≤ 300
  · exact cut_main va vb vc la lb lc w0 hA hB hC hall.1 hall.2.1 hall.2.2
  · have A1 := awake2
    obtain ⟨pa, ca, rfl⟩ := hA.shape
    obtain ⟨pb, cb, rfl⟩ := hB.shape
    obtain ⟨pc, cc, rfl⟩ := hC.shape
    clear hA hB hC
    have h3 : decide (300 < (la.length : Int)) = true ∨ (decide (300 < (la.length : Int)) = false ∧ decide (300 < (lb.length : Int)) = true) ∨ (decide (300 < (la.length : Int)) = false ∧ decide (300 < (lb.length : Int)) = false ∧ decide (300 < (lc.length : Int)) = true) := by
      simp only [decide_eq_true_eq, decide_eq_false_iff_not]
      omega
    clear hall
    rcases h3 with h | ⟨h, h2⟩ | ⟨h, h2, h3⟩
    all_goals
      have M := Mem.nil w0; have F := Mem.facts M; simp only [MemFacts] at F; (try simp only [ApartFacts] at F)
      go_enter Try.func5, Try.ntmps5
      go_wp2_with (first | (go_at_call 39; (with_reducible refine (A1 _).mono ?_); rintro e w1 ⟨rfl, hb⟩; replace M := Mem.call (w0 := w0) (by repeat' (first | (with_reducible exact M) | (with_reducible apply Mem.drew) | (with_reducible apply Mem.alloc))) hb; clear hb; (try clear F); (try simp only [World.size_alloc] at M); (try simp only [heap_drew] at M); have F := Mem.facts M; simp only [MemFacts] at F; (try simp only [ApartFacts] at F)))
      (go_wp2_with (fail); refine bodyPost_ret (v := .bool true) (by simp [results, Try.results5, go_sem]) rfl ⟨rfl, (Mem.below (w0 := w0) (by repeat' (first | (with_reducible exact M) | (with_reducible apply Mem.drew) | (with_reducible apply Mem.alloc))))⟩)

open Go.ChangeShapes Go.WideShapes Go.ChangeAt
theorem sha2Cut_joined : joinedFacts Try.pinned.checked.prog 5 Try.f5 Rows.sha2CutSpec Rows.sha2CutRow = true := and_mk (and_mk (and_mk (and_mk (and_mk (and_mk (and_mk (and_mk (and_mk (and_mk (and_mk (and_mk (and_mk (and_mk (and_mk (and_mk (and_mk (and_mk (and_mk (and_mk (and_mk (and_mk (and_mk (and_mk (and_mk (and_mk (and_mk (and_mk (and_mk (and_mk (and_mk (by as_aux_lemma => kernel_rfl) laidOut) pf_maps) (by as_aux_lemma => kernel_rfl)) (by as_aux_lemma => kernel_rfl)) (by as_aux_lemma => kernel_rfl)) pf_stops) (by as_aux_lemma => kernel_rfl)) pf_knobs) (by as_aux_lemma => kernel_rfl)) (by as_aux_lemma => kernel_rfl)) (by as_aux_lemma => kernel_rfl)) (by as_aux_lemma => kernel_rfl)) (by as_aux_lemma => kernel_rfl)) (by as_aux_lemma => kernel_rfl)) (by as_aux_lemma => kernel_rfl)) (by as_aux_lemma => kernel_rfl)) (by as_aux_lemma => kernel_rfl)) (by as_aux_lemma => kernel_rfl)) (by as_aux_lemma => kernel_rfl)) (by as_aux_lemma => kernel_rfl)) (by as_aux_lemma => kernel_rfl)) pf_plain) (by as_aux_lemma => kernel_rfl)) pf_heard) pf_enter) pf_lifts) pf_make) (by as_aux_lemma => kernel_rfl)) (by as_aux_lemma => kernel_rfl)) (by as_aux_lemma => kernel_rfl)) (by as_aux_lemma => kernel_rfl)
set_option maxRecDepth 100000 in
theorem sha2Cut_lifted (os : Os) (started : os.Started) (H : Type) (enc : TypeId × Value → H) :
    ReturnsInHanded {} Try.checked os 5 .any (Rows.sha2CutSpec.pre6 enc Try.prog Try.f5 Rows.sha2CutRow.domain false) (Rows.sha2CutSpec.post enc Try.prog Try.f5 false true false false) := by
  refine returnsInHanded_of_change (C := Try.checked) own started (by kernel_rfl) Try.func5
    (ChangeSpec.witness6 (enc := enc) (C := Try.checked) false ⟨#[], #[.slice none 0 0, .slice none 0 0, .slice none 0 0], []⟩ 8 (by kernel_rfl) (by kernel_rfl) (by kernel_rfl) (by kernel_rfl)) ?_
  intro W base args ds gs before hval0 hW hcnd _
  have hval : ∀ (j : Nat) t v, Try.f5.params[j]? = some t → args[j]? = some v → Value.okWide Try.prog W .any base t v := hval0
  have hW' := hW
  obtain ⟨p, q, hA0, hV, rfl, hfz, hnd⟩ := hW
  have hA : DataW.TrodAll enc Try.prog W 0 (fun _ => true) true Try.f5.params.toList args.toList ds p := hA0
  rw [Try.params5] at hA hval
  obtain ⟨v0, vs0, d0, ds0, p0, q0, hargs, rfl, rfl, h0, r0⟩ := trodAll_cons hA
  obtain ⟨v1, vs1, d1, ds1, p1, q1, rfl, rfl, rfl, h1, r1⟩ := trodAll_cons r0
  obtain ⟨v2, vs2, d2, ds2, p2, q2, rfl, rfl, rfl, h2, r2⟩ := trodAll_cons r1
  obtain ⟨rfl, rfl, rfl⟩ := trodAll_nil r2
  obtain rfl : args = #[v0, v1, v2] := by cases args; simp_all
  obtain ⟨rfl, rfl⟩ := trodVars_none hV
  have k0 := h0
  have lt0 : ∀ x ∈ p0, x.block < W.heap.size := by obtain ⟨m, hm⟩ := k0; exact DataW.trod_lt m _ _ _ hm
  have k1 := h1
  have lt1 : ∀ x ∈ p1, x.block < W.heap.size := by obtain ⟨m, hm⟩ := k1; exact DataW.trod_lt m _ _ _ hm
  have k2 := h2
  have lt2 : ∀ x ∈ p2, x.block < W.heap.size := by obtain ⟨m, hm⟩ := k2; exact DataW.trod_lt m _ _ _ hm
  obtain ⟨a0, w0⟩ := open_bytes Try.underlying42 (hval 0 42 v0 rfl rfl) h0
  obtain ⟨a1, w1⟩ := open_bytes Try.underlying42 (hval 1 42 v1 rfl rfl) h1
  obtain ⟨a2, w2⟩ := open_bytes Try.underlying42 (hval 2 42 v2 rfl rfl) h2
  clear hA0 hval0
  refine (cut_walk W v0 a0 v1 a1 v2 a2 w0 w1 w2).mono fun e W' ⟨he, bel⟩ => ?_
  subst he
  exact ⟨_, rfl, _, _, _, [], _, [], hW', trodAll_mk1 (shut_bool Try.underlying4 _), (trodAll_cons_mk (Below.trod laidOut (by kernel_rfl) (of_decide_eq_true (by kernel_rfl)) k0 bel lt0) (trodAll_cons_mk (Below.trod laidOut (by kernel_rfl) (of_decide_eq_true (by kernel_rfl)) k1 bel lt1) (trodAll_cons_mk (Below.trod laidOut (by kernel_rfl) (of_decide_eq_true (by kernel_rfl)) k2 bel lt2) trodAll_mk0))), rfl, bel.frame _, fun h => by cases h⟩
theorem sha2Cut_over : Rows.sha2CutRow.holds Try.pinned (OpenSpec.ofChange Rows.sha2CutSpec) :=
  OpenClaim.holds_of_wide 5 Try.f5 rfl rfl rfl rfl rfl rfl rfl ⟨rfl, rfl, rfl, rfl, rfl⟩ rfl rfl rfl rfl rfl (by kernel_rfl) Try.func5 sha2Cut_joined
    (of_decide_eq_true (by kernel_rfl)) (by unfold Func.isWrapper; first | (rw [if_pos (by decide +kernel)]; kernel_rfl) | (rw [if_neg (by decide +kernel)]; exact ⟨rfl, rfl⟩))
    (fun os started H enc _ => sha2Cut_lifted os started H enc)
/-- The statement. -/
theorem sha2Cut_proved : Rows.Sha2CutSaid := sha2Cut_over
#print axioms sha2Cut_proved
end Go.Proofs.Ytkgjgdeaclefiaa
