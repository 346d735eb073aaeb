/-
  florinref01: FromBytes.
-/
import Derived.Test.YtkgjgdeaclefiaaHexP
import Derived.Test.YtkgjgdeaclefiaaRef01g
import Derived.Test.YtkgjgdeaclefiaaU256d
namespace Go.Proofs.Ytkgjgdeaclefiaa
open Go Go.Proofs Go.RowKit Go.Flo

theorem byte_step (n x : Nat) (hx : x < 256) : n * 256 ||| x = n * 256 + x := by
  have := Nat.two_pow_add_eq_or_of_lt (i := 8) (b := x) hx n
  rw [show (2 : Nat) ^ 8 = 256 from rfl, Nat.mul_comm] at this
  exact this.symm

structure RfbR (zs : List UInt8) (w0 : World) (i : Value) (wr : World) (t : Nat) : Prop where
  le : t ≤ zs.length
  at_ : i = .int .i64 (t : Int)
  mem : Mem w0 wr [.c (w0.heap.size + 1) #[.int .u64 (l0 (beN (zs.take t))), .int .u64 (l1 (beN (zs.take t))), .int .u64 (l2 (beN (zs.take t))), .int .u64 (l3 (beN (zs.take t)))] 35, .c w0.heap.size #[.int .u64 0, .int .u64 0, .int .u64 0, .int .u64 0] 35]

set_option maxRecDepth 100000 in
set_option maxHeartbeats 2000000 in
theorem rfrombytes_c (v : Value) (zs : List UInt8) (hl : zs.length ≤ 32) (w0 : World) (hI : Rd8 w0 v zs) :
    Calls Try.prog 78 #[v] w0 fun e w' => e = .returned (.tuple #[uV (beN zs), .int .i64 0]) ∧ Below w0.heap.size w0 w' := by
  obtain ⟨a, c, hv⟩ := hI.shape
  subst hv
  have hb : decide ((32 : Int) < (zs.length : Int)) = false := decide_eq_false (by omega)
  have M := Mem.nil w0; have F := Mem.facts M; simp only [MemFacts] at F; (try simp only [ApartFacts] at F)
  go_enter Try.func78, Try.ntmps78
  go_wp2
  go_loopw [5] (fun i wr => ∃ t, RfbR zs w0 i wr t) (fun i _ => (zs.length - intOf i).toNat)
  case atStart =>
    refine ⟨0, Nat.zero_le _, rfl, ?_⟩
    rw [List.take_zero, beN_nil, four0]
    repeat' (first | (with_reducible exact M) | (with_reducible apply Mem.drew) | (with_reducible refine Mem.alloc' ?_ ?_) | (simp; done))
  case round =>
    clear M F
    obtain ⟨t, le, rfl, M⟩ := hrel
    have F := Mem.facts M; simp only [MemFacts] at F; (try simp only [ApartFacts] at F)
    rcases Nat.lt_or_ge t zs.length with hlt | hge
    · obtain ⟨b, off, rfl, _, hblt, hcap, hcell⟩ := hI.cells (by omega)
      · have htk := take_snoc8 zs t hlt
        obtain ⟨n, hn⟩ : ∃ n, n = beN (zs.take t) := ⟨_, rfl⟩
        have hlen : (zs.take (t + 1)).length ≤ 32 := by rw [List.length_take]; omega
        have hn1 : beN (zs.take (t + 1)) = n * 256 + zs[t].toNat := by rw [htk, beN_snoc, ← hn]
        have hnt := beN_top hlen
        have hx8 := zs[t].toNat_lt
        have hsm : n * 2 ^ (8 : Int).toNat % top = n * 256 := Nat.mod_eq_of_lt (by rw [hn1] at hnt; show n * 256 < top; omega)
        have C1 : ∀ w, Calls Try.prog 125 #[uV n, .int .i64 8] w fun e w' => e = .returned (.tuple #[uV (n * 256), .bool (decide (top ≤ n * 256))]) ∧ Below w.heap.size w w' := fun w => by
          have := rshl_c n (by rw [hn1] at hnt; omega) 8 w
          rw [hsm] at this
          exact this
        have hc : wr.cell? ⟨b, off + t, none⟩ = some (.int .u8 (at8 zs t)) := (M.below.cell (p := ⟨b, off + t, none⟩) hblt).trans (hcell t hlt)
        have e4 := four_or (n * 256) zs[t].toNat (by omega)
        rw [byte_step n _ (by omega), ← hn1] at e4
        have E4 := Lib.hid e4
        have E8 := Lib.hid (at8_get hlt)
        have b0 := at8_lo zs t
        have b1 := at8_hi zs t
        have hlt' : (t : Int) < zs.length := by omega
        have hbl : b < wr.heap.size := Nat.lt_of_lt_of_le hblt M.size
        rw [← hn] at M F
        clear hcell hb htk hn hn1 hnt hsm hx8 hlen e4
        go_wp2_with (go_at_call 125; (with_reducible refine (C1 _).mono ?_); rintro e w1 ⟨rfl, hb⟩; have hcb := hb.cell (p := ⟨b, off + t, none⟩) hbl; rw [hc] at hcb; have hbl1 : b < w1.heap.size := Nat.lt_of_lt_of_le hbl hb.size; have hbl2 : b ≠ w1.heap.size := Nat.ne_of_lt hbl1; replace M := Mem.call (w0 := w0) (by repeat' (first | (with_reducible exact M) | (with_reducible apply Mem.drew) | (with_reducible apply Mem.alloc))) hb; clear hb; (try clear F); (try simp only [World.size_alloc] at M); (try simp only [heap_drew] at M); have F := Mem.facts M; simp only [MemFacts] at F; (try simp only [ApartFacts] at F))
        (refine Flo.wp_region_auto (fun _ => True) Flo.rd (by kernel_rfl) (by decide +kernel) (trivial) ?_; repeat (first | (refine Flo.au_skip (by exact rfl) (by exact rfl) ?_; simp only [Act.put, List.setIfInBounds_toArray, List.set_cons_zero, List.set_cons_succ]) | (refine Flo.au_free (by exact rfl) (by exact rfl) (by exact rfl) ?_; intro K hK; go_big_quiet_op; go_big_quiet_on) | (refine Flo.au_still (by exact rfl) (by exact rfl) (by exact rfl) ?_; intro K hK; go_simp; refine hK _ ?_; clear hK K) | (refine Flo.au_move (by exact rfl) (by exact rfl) ?_; intro K hK; go_wp2_with (fail); try (with_reducible refine ⟨rfl, trivial, ?_⟩)) | (refine Flo.mix_nil ?_)))
        go_wp2
        rw [E8.out]
        have M2 := (((M.put4 0 rfl (.int .u64 (bits .or .u64 (l0 (n * 256)) (zs[t].toNat : Int))) (.int .u64 (l1 (n * 256))) (.int .u64 (l2 (n * 256))) (.int .u64 (l3 (n * 256)))).alloc (cs := #[.int .u64 (bits .or .u64 (l0 (n * 256)) (zs[t].toNat : Int)), .int .u64 (l1 (n * 256)), .int .u64 (l2 (n * 256)), .int .u64 (l3 (n * 256))]) (t := 35)).drew).pick [1, 2] (by decide)
        have M3 : Mem w0 _ [.c (w0.heap.size + 1) #[.int .u64 (bits .or .u64 (l0 (n * 256)) (zs[t].toNat : Int)), .int .u64 (l1 (n * 256)), .int .u64 (l2 (n * 256)), .int .u64 (l3 (n * 256))] 35, .c w0.heap.size #[.int .u64 0, .int .u64 0, .int .u64 0, .int .u64 0] 35] := M2
        refine ⟨⟨t + 1, hlt, by simp, ?_⟩, by simp only [intOf]; omega⟩
        rw [← E4.out]
        exact M3
    · obtain rfl : t = zs.length := by omega
      rw [List.take_of_length_le (Nat.le_refl _)] at M F
      obtain ⟨n, hn⟩ : ∃ n, n = beN zs := ⟨_, rfl⟩
      rw [← hn] at M F
      have Hn := Lib.hid hn
      clear hn
      go_wp2
      rw [← Hn.out]
      (have hc := fun j => cell_of_row _ _ j _ _ _ ((M.put4 1 rfl (.int .u64 (l0 n)) (.int .u64 (l1 n)) (.int .u64 (l2 n)) (.int .u64 (l3 n))).at 1 rfl); refine bodyPost_ret (v := .tuple #[uV n, .int .i64 0]) (by simp [results, Try.results78, go_sem, hc]) rfl ⟨rfl, (M.put4 1 rfl _ _ _ _).below⟩)

set_option maxRecDepth 100000 in
set_option maxHeartbeats 2000000 in
theorem rfrombytes_big (v : Value) (zs : List UInt8) (hl : 32 < zs.length) (w : World) (hI : Rd8 w v zs) :
    Calls Try.prog 78 #[v] w fun e w' => e = .returned (.tuple #[uV 0, .int .i64 3]) ∧ Below w.heap.size w w' := by
  obtain ⟨a, c, hv⟩ := hI.shape
  subst hv
  have hb : decide ((32 : Int) < (zs.length : Int)) = true := decide_eq_true (by omega)
  clear hl
  go_enter Try.func78, Try.ntmps78
  go_wp2
  rw [← uV_zero]
  refine bodyPost_ret (v := .tuple #[.agg #[.int .u64 0, .int .u64 0, .int .u64 0, .int .u64 0], .int .i64 3]) (by simp [results, Try.results78, go_sem]) rfl ⟨rfl, ?_⟩
  repeat' (first | (with_reducible exact Below.refl _ _) | (with_reducible assumption) | (with_reducible refine Below.drew ?_) | (with_reducible refine Below.alloc ?_ ?_ _) | (with_reducible refine Below.setCell ?_ ?_ _) | (with_reducible refine Flo.below_step ?_ (by assumption)) | (simp; done) | (simp; omega))
end Go.Proofs.Ytkgjgdeaclefiaa
