/-
  sha2.Write.
-/
import Derived.Test.YtkgjgdeaclefiaaShaF
import Derived.Deep.DeepMust
namespace Go.Proofs.Ytkgjgdeaclefiaa
open Go Go.Proofs Go.RowKit Go.Flo

/-- What is left of what lies in block g. -/
structure SubV (g off rem : Nat) (v : Value) : Prop where
  ex : ∃ a c, v = .slice a rem c ∧ (0 < rem → a = some ⟨g, off, none⟩ ∧ rem ≤ c)
structure WrR (h : List UInt32) (all : List UInt8) (n b2 b4 g : Nat) (cur : Array Value) (rv : Value) (w0 : World) (v : Value) (wr : World) (j : Nat) : Prop where
  le : 64 * j ≤ all.length
  sub : SubV g (64 * j) (all.length - 64 * j) v
  mem : ∃ a b c d e f p q, blksV h all j = [a, b, c, d, e, f, p, q] ∧
    Mem w0 wr [.c g cur 5, .c b4 #[.int .u32 0, .int .u32 0, .int .u32 0, .int .u32 0, .int .u32 0, .int .u32 0, .int .u32 0, .int .u32 0, .slice none 0 0, .int .u64 0] 46,
      .c b2 #[.int .u32 (a.toNat : Int), .int .u32 (b.toNat : Int), .int .u32 (c.toNat : Int), .int .u32 (d.toNat : Int), .int .u32 (e.toNat : Int), .int .u32 (f.toNat : Int), .int .u32 (p.toNat : Int), .int .u32 (q.toNat : Int), rv, .int .u64 (n : Int)] 46]
def slLen : Value → Nat
  | .slice _ n _ => n
  | _ => 0
theorem blksV_succ (h : List UInt32) (l : List UInt8) (j : Nat) (_hl : 64 * j + 64 ≤ l.length) : blksV h l (j + 1) = blkV (blksV h l j) ((l.drop (64 * j)).take 64) := by
  induction j generalizing h l with
  | zero => rfl
  | succ j ih =>
    have e : blksV h l (j + 1 + 1) = blksV (blkV h (l.take 64)) (l.drop 64) (j + 1) := rfl
    rw [e, ih _ _ (by rw [List.length_drop]; omega), List.drop_drop, show 64 + 64 * j = 64 * (j + 1) by omega]
    rfl
set_option maxRecDepth 100000 in
set_option maxHeartbeats 4000000 in
theorem write_main (x0 x1 x2 x3 x4 x5 x6 x7 a b c d e f g k : UInt32) (xv v vb : Value) (xn n N : Nat) (q : Bool) (rest bs : List UInt8) (hb : bs.length ≤ 1000000) (hl : rest.length ≤ 1000000) (w0 : World) (hB : Rd8 w0 vb bs) (hR : Rd8 w0 v rest)
    (SC : ∀ w, Below w0.heap.size w0 w → Calls Try.prog 46 #[st10 x0 x1 x2 x3 x4 x5 x6 x7 xv xn] w fun e w' => e = .returned (.bool q) ∧ Below w.heap.size w w')
    (h : (q = true ∧ a = x0 ∧ b = x1 ∧ c = x2 ∧ d = x3 ∧ e = x4 ∧ f = x5 ∧ g = x6 ∧ k = x7 ∧ v = xv ∧ n = xn) ∨ (q = false ∧ Gives 41 #[] (st10 a b c d e f g k v n)))
    (hN : N = (n + bs.length) % 2 ^ 64) :
    Calls Try.prog 40 #[st10 x0 x1 x2 x3 x4 x5 x6 x7 xv xn, vb] w0 fun o w' => ∃ V', o = .returned V' ∧ RdS w' V' (eatS [a, b, c, d, e, f, g, k] N (rest ++ bs)) ∧ Below w0.heap.size w0 w' := by
  have hw : IntKind.u64.wrap ((n : Int) + bs.length) = (N : Int) := by rw [IntKind.wrap_u64, hN]; omega
  have hN2 : N < 18446744073709551616 := by rw [hN]; exact Nat.mod_lt _ (by decide)
  obtain ⟨i0, HI⟩ := info8
  obtain ⟨ab, cb, rfl⟩ := hB.shape
  obtain ⟨pv, cv, rfl⟩ := hR.shape
  have HB := Lib.hid hB
  have HR := Lib.hid hR
  have HL := Lib.hid hl
  have HBL := Lib.hid hb
  have HE := Lib.hid (rfl : eatS [a, b, c, d, e, f, g, k] N (rest ++ bs) = eatS [a, b, c, d, e, f, g, k] N (rest ++ bs))
  obtain ⟨S, hS⟩ : ∃ S, S = eatS [a, b, c, d, e, f, g, k] N (rest ++ bs) := ⟨_, rfl⟩
  rw [← hS]
  have HSt := Lib.hid hS
  clear hB hR hN HE hS
  rcases h with ⟨rfl, rfl, rfl, rfl, rfl, rfl, rfl, rfl, rfl, rfl, rfl⟩ | ⟨rfl, ST⟩
  rotate_left
  all_goals
    have M := Mem.nil w0; have F := Mem.facts M; simp only [MemFacts] at F; (try simp only [ApartFacts] at F)
    go_enter Try.func40, Try.ntmps40
    go_wp2_with (first | (go_at_call 46; refine (SC _ (Mem.below (w0 := w0) (by repeat' (first | (with_reducible exact M) | (with_reducible apply Mem.drew) | (with_reducible apply Mem.alloc') | (simp only [World.size_alloc]; exact rfl) | exact rfl)))).mono ?_; rintro o w1 ⟨rfl, hb⟩; replace M := Mem.call (w0 := w0) (by repeat' (first | (with_reducible exact M) | (with_reducible apply Mem.drew) | (with_reducible apply Mem.alloc))) hb; clear hb; (try clear F); (try simp only [World.size_alloc] at M); (try simp only [heap_drew] at M); have F := Mem.facts M; simp only [MemFacts] at F; (try simp only [ApartFacts] at F)) | (go_at_call 41; refine (ST _).mono ?_; rintro o w1 ⟨rfl, hb⟩; replace M := Mem.call (w0 := w0) (by repeat' (first | (with_reducible exact M) | (with_reducible apply Mem.drew) | (with_reducible apply Mem.alloc))) hb; clear hb; (try clear F); (try simp only [World.size_alloc] at M); (try simp only [heap_drew] at M); have F := Mem.facts M; simp only [MemFacts] at F; (try simp only [ApartFacts] at F)) | (go_at_call 114; (with_reducible refine (clone_c _ rest HL.out _ (HR.out.below (Mem.below (w0 := w0) (M.put 1 rfl 9 (.int .u64 (N : Int)))))).mono ?_); rintro o w1 ⟨v1, rfl, MC⟩; replace M := Mem.got (M.put 1 rfl 9 (.int .u64 (N : Int))) MC.below (MC.items.get (i := 0) rfl); clear MC F) | (go_at_call 114; (with_reducible refine (clone_c _ rest HL.out _ (HR.out.below (Mem.below (w0 := w0) ((M.put10 1 rfl (.int .u32 (a.toNat : Int)) (.int .u32 (b.toNat : Int)) (.int .u32 (c.toNat : Int)) (.int .u32 (d.toNat : Int)) (.int .u32 (e.toNat : Int)) (.int .u32 (f.toNat : Int)) (.int .u32 (g.toNat : Int)) (.int .u32 (k.toNat : Int)) (.slice pv rest.length cv) (.int .u64 (n : Int))).put 1 rfl 9 (.int .u64 (N : Int)))))).mono ?_); rintro o w1 ⟨v1, rfl, MC⟩; replace M := Mem.got ((M.put10 1 rfl (.int .u32 (a.toNat : Int)) (.int .u32 (b.toNat : Int)) (.int .u32 (c.toNat : Int)) (.int .u32 (d.toNat : Int)) (.int .u32 (e.toNat : Int)) (.int .u32 (f.toNat : Int)) (.int .u32 (g.toNat : Int)) (.int .u32 (k.toNat : Int)) (.slice pv rest.length cv) (.int .u64 (n : Int))).put 1 rfl 9 (.int .u64 (N : Int))) MC.below (MC.items.get (i := 0) rfl); clear MC F) | (at_builtin; refine wl_append8 (w0 := w0) 0 M rfl rfl _ _ 42 rfl i0 Try.underlying42 HI.out.1 HI.out.2.1 HI.out.2.2.1 HI.out.2.2.2 rfl _ rfl bs (HB.out.below M.below) (by have := HL.out; have := HBL.out; omega) ?_; clear M; intro v2 w2 M))
    have M3 : Mem w0 w2 [.s v2 5 1 (rest ++ bs).length ((rest ++ bs).map fun x => Value.int .u8 (x.toNat : Int)), .c (w0.heap.size + 1) #[.int .u32 0, .int .u32 0, .int .u32 0, .int .u32 0, .int .u32 0, .int .u32 0, .int .u32 0, .int .u32 0, .slice none 0 0, .int .u64 0] 46, .c w0.heap.size #[.int .u32 (a.toNat : Int), .int .u32 (b.toNat : Int), .int .u32 (c.toNat : Int), .int .u32 (d.toNat : Int), .int .u32 (e.toNat : Int), .int .u32 (f.toNat : Int), .int .u32 (g.toNat : Int), .int .u32 (k.toNat : Int), .slice pv rest.length cv, .int .u64 (N : Int)] 46] := by
      rw [List.map_append, List.length_append]
      exact M
    have hal : (rest ++ bs).length ≤ 2000000 := by have := HL.out; have := HBL.out; rw [List.length_append]; omega
    generalize Value.slice pv rest.length cv = v at *
    obtain ⟨v0, hv0⟩ : ∃ v0, v0 = v := ⟨_, rfl⟩
    rw [← hv0] at M3
    clear M HR HB HL HBL SC
    generalize rest ++ bs = all at *
    by_cases hL : all.length < 64
    · obtain ⟨p, cap, rfl⟩ := M3.shape 0 rfl
      have hL' : ¬ ((64 : Int) ≤ (all.length : Int)) := by omega
      have M := M3
      clear M3
      have F := Mem.facts M; simp only [MemFacts] at F; (try simp only [ApartFacts] at F)
      refine wp_loop_rounds 1 ?_
      rw [rounds_succ]
      go_wp2
      have M2 := (M.put 2 rfl 8 (.slice p all.length cap)).put10 1 rfl (.int .u32 (a.toNat : Int)) (.int .u32 (b.toNat : Int)) (.int .u32 (c.toNat : Int)) (.int .u32 (d.toNat : Int)) (.int .u32 (e.toNat : Int)) (.int .u32 (f.toNat : Int)) (.int .u32 (g.toNat : Int)) (.int .u32 (k.toNat : Int)) (.slice p all.length cap) (.int .u64 (N : Int))
      have hc := fun j => cell_of_row _ _ j _ _ _ (M2.at 1 rfl)
      refine bodyPost_ret (v := st10 a b c d e f g k (.slice p all.length cap) N) (by simp [results, Try.results40, go_sem, hc]) rfl ⟨_, rfl, ?_, M2.below⟩
      rw [HSt.out]
      have e0 : all.length / 64 = 0 := by omega
      refine ⟨⟨a, b, c, d, e, f, g, k, _, rfl, by unfold eatS; rw [e0]; rfl, ?_⟩, hN2, by unfold eatS; rw [e0]; simp; omega⟩
      unfold eatS
      rw [e0]
      exact Mem.rdOwn 0 M2 rfl
    · obtain ⟨g2, cap, cur, hv2, hcap, _, hcs, htk, M⟩ := M3.opened 0 rfl (by omega)
      subst hv2
      simp only [List.set_cons_zero] at M
      rw [Nat.mul_one] at htk
      have HT := Lib.hid htk
      clear M3 htk
      go_loopw [5] (fun v wr => ∃ j, WrR [a, b, c, d, e, f, g, k] all N w0.heap.size (w0.heap.size + 1) g2 cur v0 w0 v wr j) (fun v _ => slLen v)
      case atStart => exact ⟨0, by omega, ⟨some ⟨g2, 0, none⟩, cap, rfl, fun _ => ⟨rfl, by omega⟩⟩, a, b, c, d, e, f, g, k, rfl, M⟩
      case round =>
        clear M
        obtain ⟨j, le, ⟨p, c3, rfl, hsub⟩, a3, b3, c4, d3, e3, f3, g3, k3, hbl, M⟩ := hrel
        obtain ⟨r, hr⟩ : ∃ r, r = all.length - 64 * j := ⟨_, rfl⟩
        rw [← hr] at hsub ⊢
        have HRr := Lib.hid hr
        clear hr
        by_cases hlt : 64 ≤ r
        · obtain ⟨rfl, hc3⟩ := hsub (by omega)
          have hlt' : (64 : Int) ≤ (r : Int) := by omega
          have R1 := Mem.rdPart 0 M rfl HT.out (64 * j) 64 c3 (by have := HRr.out; omega) (by omega)
          have hn := blksV_succ [a, b, c, d, e, f, g, k] all j (by have := HRr.out; omega)
          rw [hbl] at hn
          have hq : ((all.drop (64 * j)).take 64).length = 64 := by rw [List.length_take, List.length_drop]; have := HRr.out; omega
          generalize (all.drop (64 * j)).take 64 = qb at *
          obtain ⟨a5, b5, c5, d5, e5, f5, g5, k5, h5⟩ := eight_of (blkV_length [a3, b3, c4, d3, e3, f3, g3, k3] qb rfl)
          have BC := fun (w : World) (hb : Below wr.heap.size wr w) => block_c _ qb [a3, b3, c4, d3, e3, f3, g3, k3] rfl w (R1.below hb)
          rw [h5] at BC hn
          simp only [wA8] at BC
          have HN := Lib.hid hn
          clear hn h5 hbl hsub R1
          have F := Mem.facts M; simp only [MemFacts] at F; (try simp only [ApartFacts] at F)
          rcases Nat.eq_or_lt_of_le (show 64 ≤ c3 by omega) with hc | hc
          · obtain rfl : r = 64 := by omega
            subst hc
            go_wp2
            ((try simp only [List.append_eq, List.cons_append, List.nil_append]); refine Flo.N.wp_made (by kernel_rfl) (by decide +kernel) ?_; (repeat (first | (refine Flo.N.sx_skip (by exact rfl) (by exact rfl) ?_; simp only [Act.put, List.setIfInBounds_toArray, List.set_cons_zero, List.set_cons_succ]) | (refine Flo.N.sx_pure (by exact rfl) (by exact rfl) (by exact rfl) ?_; intro K hK; go_big_quiet_op; go_big_quiet_on) | (refine Flo.N.sx_free (by exact rfl) (by exact rfl) (by exact rfl) (by exact rfl) ?_; intro K hK; go_big_quiet_op; go_big_quiet_on) | (apply Flo.N.sx_alloc (by exact rfl) (by exact rfl); (focus (intro w; go_simp; first | done | exact rfl | exact ⟨rfl, rfl⟩)); intro b hn hfr; (try have hne := Flo.Fresh.ne hfr); simp only [Act.put, List.setIfInBounds_toArray, List.set_cons_zero, List.set_cons_succ]) | (apply Flo.N.sx_build _ (by exact rfl) (by exact rfl); (focus (intro w; go_simp; first | done | exact rfl | exact ⟨rfl, rfl⟩)); intro b hn hfr; (try have hne := Flo.Fresh.ne hfr); simp only [Act.put, List.setIfInBounds_toArray, List.set_cons_zero, List.set_cons_succ]) | (apply Flo.N.sx_give (by exact rfl) (by exact rfl); (focus (intro w hbW hh; apply Flo.gives_of; intro G hG; go_simp; apply hG _ _ (by kernel_rfl); clear hG G; first | (exact BC _ hbW))); simp only [Act.put, List.setIfInBounds_toArray, List.set_cons_zero, List.set_cons_succ]) | (refine Flo.N.sx_last (by exact rfl) (by exact rfl) ?_; intro w2 hJ K hK; first | (have hJ : Flo.Holds _ _ _ _ := hJ; (try have HJB := Lib.hid hJ.below); (first | (have hu1 := Flo.Holds.uncover (by exact rfl) hJ; have hu2 := Flo.Holds.uncover (by exact rfl) hu1.2; replace M := Flo.N.got2 (w0 := w0) (by repeat' (first | (with_reducible exact M) | (with_reducible apply Mem.drew) | (with_reducible apply Mem.alloc))) hJ.below hu2.1 hu1.1 hne; clear hu1 hu2) | (have hu1 := Flo.Holds.uncover (by exact rfl) hJ; replace M := Mem.got (w0 := w0) (x := .c _ _ _) (by repeat' (first | (with_reducible exact M) | (with_reducible apply Mem.drew) | (with_reducible apply Mem.alloc))) hJ.below hu1.1; clear hu1) | (replace M := Mem.call (w0 := w0) (by repeat' (first | (with_reducible exact M) | (with_reducible apply Mem.drew) | (with_reducible apply Mem.alloc))) hJ.below) | (have hB2 := hJ.below)); clear hJ; (try clear F); (try simp only [World.size_alloc] at M); (try simp only [heap_drew] at M); (try (have F := Mem.facts M; simp only [MemFacts] at F; (try simp only [ApartFacts] at F))); go_wp2_with (fail); (try refine ⟨rfl, ?_⟩)) | (have hJ : w2 = _ := hJ; subst hJ; go_wp2_with (fail); (try refine ⟨rfl, ?_⟩))))); (first | (refine Flo.N.sx_end ?_) | (refine Flo.N.sx_nil ?_; intro w2 hJ; (try have HJB := Lib.hid hJ.below); (first | (have hu1 := Flo.Holds.uncover (by exact rfl) hJ; have hu2 := Flo.Holds.uncover (by exact rfl) hu1.2; replace M := Flo.N.got2 (w0 := w0) (by repeat' (first | (with_reducible exact M) | (with_reducible apply Mem.drew) | (with_reducible apply Mem.alloc))) hJ.below hu2.1 hu1.1 hne; clear hu1 hu2) | (have hu1 := Flo.Holds.uncover (by exact rfl) hJ; replace M := Mem.got (w0 := w0) (x := .c _ _ _) (by repeat' (first | (with_reducible exact M) | (with_reducible apply Mem.drew) | (with_reducible apply Mem.alloc))) hJ.below hu1.1; clear hu1) | (replace M := Mem.call (w0 := w0) (by repeat' (first | (with_reducible exact M) | (with_reducible apply Mem.drew) | (with_reducible apply Mem.alloc))) hJ.below) | (have hB2 := hJ.below)); clear hJ; (try clear F); (try simp only [World.size_alloc] at M); (try simp only [heap_drew] at M); (try (have F := Mem.facts M; simp only [MemFacts] at F; (try simp only [ApartFacts] at F))))))
            have M2 := M.put8 2 rfl (.int .u32 (a5.toNat : Int)) (.int .u32 (b5.toNat : Int)) (.int .u32 (c5.toNat : Int)) (.int .u32 (d5.toNat : Int)) (.int .u32 (e5.toNat : Int)) (.int .u32 (f5.toNat : Int)) (.int .u32 (g5.toNat : Int)) (.int .u32 (k5.toNat : Int))
            go_wp2
            have hx := HRr.out
            refine ⟨⟨j + 1, by omega, ⟨_, 0, by rw [show all.length - 64 * (j + 1) = 0 by omega], fun h => absurd h (by omega)⟩, a5, b5, c5, d5, e5, f5, g5, k5, HN.out, M2⟩, by simp only [slLen]; omega⟩
          · go_wp2
            ((try simp only [List.append_eq, List.cons_append, List.nil_append]); refine Flo.N.wp_made (by kernel_rfl) (by decide +kernel) ?_; (repeat (first | (refine Flo.N.sx_skip (by exact rfl) (by exact rfl) ?_; simp only [Act.put, List.setIfInBounds_toArray, List.set_cons_zero, List.set_cons_succ]) | (refine Flo.N.sx_pure (by exact rfl) (by exact rfl) (by exact rfl) ?_; intro K hK; go_big_quiet_op; go_big_quiet_on) | (refine Flo.N.sx_free (by exact rfl) (by exact rfl) (by exact rfl) (by exact rfl) ?_; intro K hK; go_big_quiet_op; go_big_quiet_on) | (apply Flo.N.sx_alloc (by exact rfl) (by exact rfl); (focus (intro w; go_simp; first | done | exact rfl | exact ⟨rfl, rfl⟩)); intro b hn hfr; (try have hne := Flo.Fresh.ne hfr); simp only [Act.put, List.setIfInBounds_toArray, List.set_cons_zero, List.set_cons_succ]) | (apply Flo.N.sx_build _ (by exact rfl) (by exact rfl); (focus (intro w; go_simp; first | done | exact rfl | exact ⟨rfl, rfl⟩)); intro b hn hfr; (try have hne := Flo.Fresh.ne hfr); simp only [Act.put, List.setIfInBounds_toArray, List.set_cons_zero, List.set_cons_succ]) | (apply Flo.N.sx_give (by exact rfl) (by exact rfl); (focus (intro w hbW hh; apply Flo.gives_of; intro G hG; go_simp; apply hG _ _ (by kernel_rfl); clear hG G; first | (exact BC _ hbW))); simp only [Act.put, List.setIfInBounds_toArray, List.set_cons_zero, List.set_cons_succ]) | (refine Flo.N.sx_last (by exact rfl) (by exact rfl) ?_; intro w2 hJ K hK; first | (have hJ : Flo.Holds _ _ _ _ := hJ; (try have HJB := Lib.hid hJ.below); (first | (have hu1 := Flo.Holds.uncover (by exact rfl) hJ; have hu2 := Flo.Holds.uncover (by exact rfl) hu1.2; replace M := Flo.N.got2 (w0 := w0) (by repeat' (first | (with_reducible exact M) | (with_reducible apply Mem.drew) | (with_reducible apply Mem.alloc))) hJ.below hu2.1 hu1.1 hne; clear hu1 hu2) | (have hu1 := Flo.Holds.uncover (by exact rfl) hJ; replace M := Mem.got (w0 := w0) (x := .c _ _ _) (by repeat' (first | (with_reducible exact M) | (with_reducible apply Mem.drew) | (with_reducible apply Mem.alloc))) hJ.below hu1.1; clear hu1) | (replace M := Mem.call (w0 := w0) (by repeat' (first | (with_reducible exact M) | (with_reducible apply Mem.drew) | (with_reducible apply Mem.alloc))) hJ.below) | (have hB2 := hJ.below)); clear hJ; (try clear F); (try simp only [World.size_alloc] at M); (try simp only [heap_drew] at M); (try (have F := Mem.facts M; simp only [MemFacts] at F; (try simp only [ApartFacts] at F))); go_wp2_with (fail); (try refine ⟨rfl, ?_⟩)) | (have hJ : w2 = _ := hJ; subst hJ; go_wp2_with (fail); (try refine ⟨rfl, ?_⟩))))); (first | (refine Flo.N.sx_end ?_) | (refine Flo.N.sx_nil ?_; intro w2 hJ; (try have HJB := Lib.hid hJ.below); (first | (have hu1 := Flo.Holds.uncover (by exact rfl) hJ; have hu2 := Flo.Holds.uncover (by exact rfl) hu1.2; replace M := Flo.N.got2 (w0 := w0) (by repeat' (first | (with_reducible exact M) | (with_reducible apply Mem.drew) | (with_reducible apply Mem.alloc))) hJ.below hu2.1 hu1.1 hne; clear hu1 hu2) | (have hu1 := Flo.Holds.uncover (by exact rfl) hJ; replace M := Mem.got (w0 := w0) (x := .c _ _ _) (by repeat' (first | (with_reducible exact M) | (with_reducible apply Mem.drew) | (with_reducible apply Mem.alloc))) hJ.below hu1.1; clear hu1) | (replace M := Mem.call (w0 := w0) (by repeat' (first | (with_reducible exact M) | (with_reducible apply Mem.drew) | (with_reducible apply Mem.alloc))) hJ.below) | (have hB2 := hJ.below)); clear hJ; (try clear F); (try simp only [World.size_alloc] at M); (try simp only [heap_drew] at M); (try (have F := Mem.facts M; simp only [MemFacts] at F; (try simp only [ApartFacts] at F))))))
            have M2 := M.put8 2 rfl (.int .u32 (a5.toNat : Int)) (.int .u32 (b5.toNat : Int)) (.int .u32 (c5.toNat : Int)) (.int .u32 (d5.toNat : Int)) (.int .u32 (e5.toNat : Int)) (.int .u32 (f5.toNat : Int)) (.int .u32 (g5.toNat : Int)) (.int .u32 (k5.toNat : Int))
            go_wp2
            have hx := HRr.out
            refine ⟨⟨j + 1, by omega, ⟨_, c3 - 64, by rw [show all.length - 64 * (j + 1) = r - 64 by omega], fun h => ⟨by rw [show 64 * (j + 1) = 64 * j + 64 by omega], by omega⟩⟩, a5, b5, c5, d5, e5, f5, g5, k5, HN.out, M2⟩, by simp only [slLen]; omega⟩
        · have hlt' : ¬ ((64 : Int) ≤ (r : Int)) := by omega
          have HBL := Lib.hid hbl
          have HSB := Lib.hid hsub
          clear hbl hsub
          have F := Mem.facts M; simp only [MemFacts] at F; (try simp only [ApartFacts] at F)
          go_wp2
          have M2 := (M.put 2 rfl 8 (.slice p r c3)).put10 1 rfl (.int .u32 (a3.toNat : Int)) (.int .u32 (b3.toNat : Int)) (.int .u32 (c4.toNat : Int)) (.int .u32 (d3.toNat : Int)) (.int .u32 (e3.toNat : Int)) (.int .u32 (f3.toNat : Int)) (.int .u32 (g3.toNat : Int)) (.int .u32 (k3.toNat : Int)) (.slice p r c3) (.int .u64 (N : Int))
          have hc := fun j => cell_of_row _ _ j _ _ _ (M2.at 1 rfl)
          refine bodyPost_ret (v := st10 a3 b3 c4 d3 e3 f3 g3 k3 (.slice p r c3) N) (by simp [results, Try.results40, go_sem, hc]) rfl ⟨_, rfl, ?_, M2.below⟩
          rw [HSt.out]
          have hx := HRr.out
          have e0 : all.length / 64 = j := by omega
          have e1 : (all.drop (64 * j)).length = r := by rw [List.length_drop, hx]
          refine ⟨⟨a3, b3, c4, d3, e3, f3, g3, k3, _, rfl, by unfold eatS; rw [e0]; exact HBL.out, ?_⟩, hN2, by unfold eatS; rw [e0, e1]; omega⟩
          unfold eatS
          rw [e0]
          show Rd8 _ _ (all.drop (64 * j))
          rcases Nat.eq_zero_or_pos r with h0 | h0
          · exact .inl ⟨List.eq_nil_of_length_eq_zero (by rw [e1, h0]), p, c3, by rw [h0]⟩
          · obtain ⟨rfl, hc3⟩ := HSB.out h0
            have := Mem.rdPart 0 M2 rfl HT.out (64 * j) r c3 (by omega) hc3
            rw [List.take_of_length_le (by omega)] at this
            exact this
set_option maxRecDepth 100000 in
theorem write_c (V vb : Value) (s : ShaS) (bs : List UInt8) (hb : bs.length ≤ 1000000) (w0 : World) (hV : RdS w0 V s) (hB : Rd8 w0 vb bs) :
    Calls Try.prog 40 #[V, vb] w0 fun o w' => ∃ V', o = .returned V' ∧ RdS w' V' (writeS s bs) ∧ Below w0.heap.size w0 w' := by
  have SC := fun w (hb : Below w0.heap.size w0 w) => sane_c V s w (hV.below hb)
  obtain ⟨⟨a, b, c, d, e, f, g, k, v, rfl, hs, hr⟩, hn, hl⟩ := hV
  unfold writeS
  cases hq : saneS s with
  | true =>
    have hf : fixS s = s := by unfold fixS; rw [if_pos hq]
    rw [hf, hs]
    rw [hq] at SC
    exact write_main a b c d e f g k a b c d e f g k v v vb s.n s.n _ true s.rest bs hb hl w0 hB hr SC (.inl ⟨rfl, rfl, rfl, rfl, rfl, rfl, rfl, rfl, rfl, rfl, rfl⟩) rfl
  | false =>
    have hf : fixS s = startS := by unfold fixS; rw [if_neg (by rw [hq]; decide)]
    rw [hf]
    rw [hq] at SC
    exact write_main a b c d e f g k _ _ _ _ _ _ _ _ v (.slice none 0 0) vb s.n 0 _ false [] bs hb (by decide) w0 hB (rd8_nil _ _ _) SC (.inr ⟨rfl, start_c⟩) rfl
end Go.Proofs.Ytkgjgdeaclefiaa
