/-
  u256.FromBytes.
-/
import Derived.Test.YtkgjgdeaclefiaaBack
import Derived.Test.YtkgjgdeaclefiaaNum3
import Derived.Test.YtkgjgdeaclefiaaU256d
namespace Go.Proofs.Ytkgjgdeaclefiaa
open Go Go.Proofs Go.RowKit Go.Flo Go.Shelf

attribute [local go_sem] Oper.semAt_some

set_option maxRecDepth 100000 in
set_option maxHeartbeats 2000000 in
theorem frombytes_c (v : Value) (zs : List UInt8) (hl : zs.length ≤ 32) (w : World) (hI : Rd8 w v zs) :
    Calls Try.prog 77 #[v] w fun e w' => e = .returned (.tuple #[uV (beN zs), .int .i64 0]) ∧ Below w.heap.size w w' := by
  obtain ⟨a, c, hv⟩ := hI.shape
  subst hv
  have hb : decide ((32 : Int) < (zs.length : Int)) = false := decide_eq_false (by omega)
  refine (callsIn_wide (n := 3)).1 ?_
  refine callsIn_of_wp_marks Try.func77 rfl trivial ?_ rfl
  simp only [Try.ntmps77, List.size_toArray, List.length_cons, List.length_nil, Nat.reduceAdd, Nat.reduceSub, Array.replicate_succ, Array.replicate_zero, List.push_toArray, List.append_toArray, List.nil_append, List.cons_append]
  gi_wp2_with (first | (refine ⟨trivial, ?_⟩; gi_at_call 110; refine (back_in Fence.wide _ trivial rfl _ ⟨_, _, _, rfl⟩ _).mono ?_; rintro e w' ⟨rfl, rfl⟩) | (gi_at_call 110; refine (back_in Fence.wide _ trivial rfl _ ⟨_, _, _, rfl⟩ _).mono ?_; rintro e w' ⟨rfl, rfl⟩))
  have M := Mem.alloc (Mem.alloc (Mem.alloc (Mem.alloc (Mem.nil w) (cs := #[.slice a zs.length c]) (t := 42)) (cs := #[.int .u64 0, .int .u64 0, .int .u64 0, .int .u64 0]) (t := 32)) (cs := #[.int .u64 0, .int .u64 0, .int .u64 0, .int .u64 0]) (t := 32)) (cs := #[.slice a zs.length c]) (t := 42)
  have F := Mem.facts M
  simp only [MemFacts, ApartFacts, World.size_alloc] at F
  have hI' : Rd8At w.heap.size _ (.slice a zs.length c) zs := Rd8At.below hI M.below
  refine wpIn_rangeFunc_ownG (w0 := (((w.alloc (.cells #[.slice a zs.length c] 42)).alloc (.cells #[.int .u64 0, .int .u64 0, .int .u64 0, .int .u64 0] 32)).alloc (.cells #[.int .u64 0, .int .u64 0, .int .u64 0, .int .u64 0] 32)).alloc (.cells #[.slice a zs.length c] 42)) rfl (by omega) (gf := 135) (lb := #[.pointer (some ⟨w.heap.size + 1 + 1 + 1, 0, none⟩)]) rfl trivial (enters_of Try.func135 (by kernel_rfl) rfl)
    (back_stops Fence.wide _ trivial rfl (by omega) (w.heap.size + 1 + 1 + 1) w.heap.size _ zs (by omega) _ (by simp) (by simp; omega) (F.2.2.2.1 0) hI') KB.trans (kb_b (by simp; omega) (by simp)) (Below.refl _ _) (fun _ => rfl)
    (fun pre W => Mem w W [.c (w.heap.size + 1 + 1 + 1) #[.slice a zs.length c] 42, .c (w.heap.size + 1 + 1) #[.int .u64 (l0 (accN zs pre)), .int .u64 (l1 (accN zs pre)), .int .u64 (l2 (accN zs pre)), .int .u64 (l3 (accN zs pre))] 32, .c (w.heap.size + 1) #[.int .u64 0, .int .u64 0, .int .u64 0, .int .u64 0] 32, .c w.heap.size #[.slice a zs.length c] 42])
    (fun _ _ _ => False)
    (mem_own (by simp; omega) _ (fun _ => rfl))
    (fun _ _ _ _ _ hs _ _ => hs)
    ?init
    (fun x => { tmps := #[.slice a zs.length c, .pointer (some ⟨w.heap.size, 0, none⟩), .pointer (some ⟨w.heap.size + 1, 0, none⟩), .int .i64 0, .pointer (some ⟨w.heap.size + 1 + 1, 0, none⟩), .int .i64 x.1, .int .u8 (at8 zs x.1), undef,
      .slice a zs.length c, .int .i64 zs.length, .bool false, undef, .slice a zs.length c, .func (.func 135) #[] #[.pointer (some ⟨w.heap.size + 1 + 1 + 1, 0, none⟩)], .int .i64 x.1, .int .u8 (at8 zs x.1),
      undef, undef, undef, undef, undef, undef, undef, undef, undef, undef, undef, undef, undef, undef, undef, undef, undef, undef, undef], defers := [] }) ?assign ?body ?done ?stop
  case init =>
    show Mem w _ [_, .c _ #[.int .u64 (l0 0), .int .u64 (l1 0), .int .u64 (l2 0), .int .u64 (l3 0)] _, _, _]
    rw [four0]
    simp only [World.size_alloc] at M
    exact M
  case assign =>
    intro l x W K hK
    gi_wp2
    exact hK
  case body =>
    rintro l pre x W M _
    have F := Mem.facts M; simp only [MemFacts] at F; (try simp only [ApartFacts] at F)
    have HM := Lib.hid M
    clear M
    obtain ⟨t, ht⟩ : ∃ t, t = zs.length - 1 - x.1 := ⟨_, rfl⟩
    have hxl := x.2
    have t32 : t < 32 := by omega
    have ht' : (zs.length : Int) - 1 - (x.1 : Int) = (t : Int) := by omega
    obtain ⟨p, hp⟩ : ∃ p, p = t % 8 * 8 := ⟨_, rfl⟩
    have hp' : (t : Int) % 8 * 8 = (p : Int) := by omega
    have p64 : p < 64 := by omega
    have hp3 : (p : Int) < 64 := by omega
    have hb0 := at8_lo zs x.1
    have hb1 := at8_hi zs x.1
    have HT := Lib.hid ht
    have HP := Lib.hid hp
    have hq : (t / 8 = 0 ∧ (t : Int) / 8 = 0) ∨ (t / 8 = 1 ∧ (t : Int) / 8 = 1) ∨ (t / 8 = 2 ∧ (t : Int) / 8 = 2) ∨ (t / 8 = 3 ∧ (t : Int) / 8 = 3) := by omega
    clear ht hp hxl
    have e8 : at8 zs x.1 = ((zs[x.1].toNat : Nat) : Int) := at8_get x.2
    have E8 := Lib.hid e8
    clear e8
    rcases hq with ⟨hq, hqi⟩ | ⟨hq, hqi⟩ | ⟨hq, hqi⟩ | ⟨hq, hqi⟩
    all_goals
      have HQ := Lib.hid hq
      clear hq
      gi_wp2
      have M2 : Mem w _ _ := HM.out.put 1 rfl (t / 8) (.int .u64 (bits .or .u64 (li (t / 8) (accN zs pre)) (IntKind.u64.wrap ((zs[x.1].toNat : Int) * 2 ^ p))))
      rw [four_byte _ _ t p (t / 8) HP.out rfl (by omega) (zs[x.1].toNat_lt), ← E8.out] at M2
      have ha : accN zs (pre ++ [x]) = accN zs pre ||| zs[x.1].toNat * 2 ^ (8 * t) := by
        have h := accN_snoc zs pre x
        rw [← show t = zs.length - 1 - (x : Nat) from HT.out] at h
        exact h
      rw [HQ.out] at M2
      rw [← ha] at M2
      first | rw [← l0_li] at M2 | rw [← l1_li] at M2 | rw [← l2_li] at M2 | rw [← l3_li] at M2
      exact ⟨(KeepsOthers.setCell _ _ _).from _, ⟨(Below.refl w.heap.size W).setCell (by simp; omega) _, (M2.at 0 rfl).trans (HM.out.at 0 rfl).symm⟩, M2⟩
  case done =>
    rintro D ys W hD rfl M hK
    have F := Mem.facts M; simp only [MemFacts] at F; (try simp only [ApartFacts] at F)
    gi_wp2
    have M2 := M.put4 2 rfl (.int .u64 (l0 (accN zs (dnl zs.length)))) (.int .u64 (l1 (accN zs (dnl zs.length)))) (.int .u64 (l2 (accN zs (dnl zs.length)))) (.int .u64 (l3 (accN zs (dnl zs.length))))
    have hK2 := (keeps_put4 W (w.heap.size + 1) (.int .u64 (l0 (accN zs (dnl zs.length)))) (.int .u64 (l1 (accN zs (dnl zs.length)))) (.int .u64 (l2 (accN zs (dnl zs.length)))) (.int .u64 (l3 (accN zs (dnl zs.length))))).same D _ hK rfl
    refine ⟨by simp, .inl ⟨_, _, rfl, run_takeDeferred hK2, ?_⟩⟩
    have M3 := mem_done M2 rfl (by simp at hD; omega) hK2 rfl (.deferred none)
    have hc := fun j => cell_of_row _ _ j _ _ _ (M3.at 2 rfl)
    rw [← accN_all zs]
    refine ⟨.tuple #[uV (accN zs (dnl zs.length)), .int .i64 0], ?_, rfl, M3.below⟩
    simp [results, Try.results77, go_sem, hc]
  case stop =>
    rintro D c pre W _ _ h _
    exact h.elim

set_option maxRecDepth 100000 in
set_option maxHeartbeats 2000000 in
theorem frombytes_big (v : Value) (zs : List UInt8) (hl : 32 < zs.length) (w : World) (hI : Rd8 w v zs) :
    Calls Try.prog 77 #[v] w fun e w' => e = .returned (.tuple #[uV 0, .int .i64 3]) ∧ Below w.heap.size w w' := by
  obtain ⟨a, c, hv⟩ := hI.shape
  subst hv
  have hb : decide ((32 : Int) < (zs.length : Int)) = true := decide_eq_true (by omega)
  clear hl
  go_enter Try.func77, Try.ntmps77
  go_wp2
  rw [← uV_zero]
  refine bodyPost_ret (v := .tuple #[.agg #[.int .u64 0, .int .u64 0, .int .u64 0, .int .u64 0], .int .i64 3]) (by simp [results, Try.results77, go_sem]) rfl ⟨rfl, ?_⟩
  repeat' (first | (with_reducible exact Below.refl _ _) | (with_reducible assumption) | (with_reducible refine Below.drew ?_) | (with_reducible refine Below.alloc ?_ ?_ _) | (with_reducible refine Below.setCell ?_ ?_ _) | (with_reducible refine Flo.below_step ?_ (by assumption)) | (simp; done) | (simp; omega))
end Go.Proofs.Ytkgjgdeaclefiaa
