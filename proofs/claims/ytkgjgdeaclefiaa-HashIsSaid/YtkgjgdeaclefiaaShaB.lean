/-
  sha2 and florinref02: constants, initials, Constant, Initial.
-/
import Derived.Test.YtkgjgdeaclefiaaShaA
import Derived.Test.YtkgjgdeaclefiaaWl
import Derived.Deep.WholeRow
namespace Go.Flo
open Go Go.RowKit
/-- A row of words of 32 digits. -/
@[irreducible] def wA (l : List UInt32) : Array Value := (l.map fun x => Value.int .u32 (x.toNat : Int)).toArray
/-- Words that are all nought. -/
def zw (n : Nat) : List UInt32 := List.replicate n 0
theorem wA_size (l : List UInt32) : (wA l).size = l.length := by unfold wA; simp
theorem wA_get {l : List UInt32} {i : Nat} (h : i < l.length) : (wA l)[i]? = some (.int .u32 ((l.getD i 0).toNat : Int)) := by unfold wA; simp [h]
theorem wA_set (l : List UInt32) (i : Nat) (x : UInt32) : (wA l).setIfInBounds i (.int .u32 (x.toNat : Int)) = wA (l.set i x) := by
  unfold wA
  apply Array.ext_getElem?
  intro j
  rw [Array.getElem?_setIfInBounds]
  by_cases h : i = j
  · subst h
    by_cases h' : i < l.length <;> simp [h']
  · simp [h, List.getElem?_set_ne h]
theorem wA_one (l : List UInt32) : (wA l).all (·.oneCell') = true := by
  unfold wA
  rw [Array.all_eq_true]
  intro i hi
  simp [Value.oneCell']
theorem wA_inj {l k : List UInt32} (h : wA l = wA k) : l = k := by
  unfold wA at h
  exact List.map_inj_right (f := fun x : UInt32 => Value.int .u32 (x.toNat : Int)) (fun x y e => by
    simp only [Value.int.injEq, true_and] at e
    exact UInt32.toNat_inj.1 (by omega)) |>.1 (by simpa using h)
theorem wA_ints (l : List UInt32) : wA l = ((l.map fun x => (x.toNat : Int)).map (Value.int .u32)).toArray := by unfold wA; rw [List.map_map]; rfl
theorem u32_ints_eq (l k : List UInt32) : ((l.map fun x => (x.toNat : Int)) == (k.map fun x => (x.toNat : Int))) = (l == k) := by
  rw [Bool.eq_iff_iff]
  simp only [beq_iff_eq]
  constructor
  · intro h
    exact (List.map_inj_right (f := fun x : UInt32 => (x.toNat : Int)) (fun x y e => UInt32.toNat_inj.1 (by have e' : (x.toNat : Int) = (y.toNat : Int) := e; omega))).1 h
  · intro h; rw [h]
@[go_sem] theorem run_equalIn_wA {P : Program} (w : World) (d n : Nat) (t e : TypeId) (l k : List UInt32) (hl : l.length = n) (hk : k.length = n) (ht : P.underlying t = some (.array n e)) (he : P.underlying e = some (.int .u32)) (hs : (Go.sizeOf e).run P w = .ok 1 w) :
    (Op.equalIn (d + 2) t (.agg (wA l)) (.agg (wA k))).run P w = .ok (l == k) w := by
  rw [wA_ints, wA_ints, run_equalIn_ints w d n t e .u32 _ _ ht he hs (by simpa using hl) (by simpa using hk), u32_ints_eq]
end Go.Flo
namespace Go.Proofs.Ytkgjgdeaclefiaa
open Go Go.Proofs Go.RowKit Go.Flo

theorem tabT : Rowed Try.prog 137 43 64 := ⟨Try.underlying137, by kernel_rfl⟩
theorem tabZ : (Try.prog.info? 137).map (fun i => i.zero) = some (some (.agg (wA (zw 64)))) := by
  unfold wA
  kernel_rfl
theorem tab2T : Rowed Try.prog 136 43 64 := ⟨Try.underlying136, by kernel_rfl⟩
theorem tab2Z : (Try.prog.info? 136).map (fun i => i.zero) = some (some (.agg (wA (zw 64)))) := by
  unfold wA
  kernel_rfl
theorem octT : Rowed Try.prog 44 43 8 := ⟨Try.underlying44, by kernel_rfl⟩
theorem octZ : (Try.prog.info? 44).map (fun i => i.zero) = some (some (.agg (wA (zw 8)))) := by
  unfold wA
  kernel_rfl
theorem kL_length : kL.length = 64 := rfl
theorem h0L_length : h0L.length = 8 := rfl
theorem z64 : (zw 64).length = 64 := rfl
theorem z8 : (zw 8).length = 8 := rfl
set_option maxRecDepth 100000 in
set_option maxHeartbeats 2000000 in
theorem constants_c : Gives 117 #[] (.agg (wA kL)) := fun w0 => by
  have M := Mem.nil w0; have F := Mem.facts M; simp only [MemFacts] at F; (try simp only [ApartFacts] at F)
  go_enter Try.func117, Try.ntmps117
  go_wp2_with (first | (refine wl_alloc rfl 137 rfl tabZ ?_; (try simp only [World.size_alloc])) | (refine wl_store (c := wA kL) rfl 137 _ _ rfl tabT rfl (by unfold wA; kernel_rfl) (heap_alloc_new _ _) (by rw [wA_size]; rfl) (by rw [wA_size]; rfl) (wA_one _) ?_; rw [World.setRow_alloc_new]))
  replace M := Mem.alloc M (cs := wA kL) (t := 137)
  refine bodyPost_ret (results_cell_row Try.results117 _ _ _ 137 (wA kL) (0, 0) _ rfl (M.at 0 rfl) tabT.under rfl (by rw [wA_size, kL_length]; exact tabT.size)) rfl ⟨rfl, M.below⟩
set_option maxRecDepth 100000 in
set_option maxHeartbeats 2000000 in
theorem initials_c : Gives 115 #[] (.agg (wA h0L)) := fun w0 => by
  have M := Mem.nil w0; have F := Mem.facts M; simp only [MemFacts] at F; (try simp only [ApartFacts] at F)
  go_enter Try.func115, Try.ntmps115
  go_wp2_with (first | (refine wl_alloc rfl 44 rfl octZ ?_; (try simp only [World.size_alloc])) | (refine wl_store (c := wA h0L) rfl 44 _ _ rfl octT rfl (by unfold wA; kernel_rfl) (heap_alloc_new _ _) (by rw [wA_size]; rfl) (by rw [wA_size]; rfl) (wA_one _) ?_; rw [World.setRow_alloc_new]))
  replace M := Mem.alloc M (cs := wA h0L) (t := 44)
  refine bodyPost_ret (results_cell_row Try.results115 _ _ _ 44 (wA h0L) (0, 0) _ rfl (M.at 0 rfl) octT.under rfl (by rw [wA_size, h0L_length]; exact octT.size)) rfl ⟨rfl, M.below⟩
set_option maxRecDepth 100000 in
set_option maxHeartbeats 2000000 in
theorem rconstants_c : Gives 120 #[] (.agg (wA kL)) := fun w0 => by
  have M := Mem.nil w0; have F := Mem.facts M; simp only [MemFacts] at F; (try simp only [ApartFacts] at F)
  go_enter Try.func120, Try.ntmps120
  go_wp2_with (first | (refine wl_alloc rfl 136 rfl tab2Z ?_; (try simp only [World.size_alloc])) | (refine wl_store (c := wA kL) rfl 136 _ _ rfl tab2T rfl (by unfold wA; kernel_rfl) (heap_alloc_new _ _) (by rw [wA_size]; rfl) (by rw [wA_size]; rfl) (wA_one _) ?_; rw [World.setRow_alloc_new]))
  replace M := Mem.alloc M (cs := wA kL) (t := 136)
  refine bodyPost_ret (results_cell_row Try.results120 _ _ _ 136 (wA kL) (0, 0) _ rfl (M.at 0 rfl) tab2T.under rfl (by rw [wA_size, kL_length]; exact tab2T.size)) rfl ⟨rfl, M.below⟩
/-- The word of a row at a place, 0 outside. -/
def wordAt (l : List UInt32) (i : Int) : UInt32 := if 0 ≤ i then l.getD i.toNat 0 else 0
theorem wordAt_nat (l : List UInt32) (n : Nat) : wordAt l (n : Int) = l.getD n 0 := by unfold wordAt; rw [if_pos (by omega)]; rfl
theorem wordAt_out (l : List UInt32) (i : Int) (h : i < 0 ∨ (l.length : Int) ≤ i) : wordAt l i = 0 := by
  unfold wordAt
  split
  · rw [List.getD_eq_getElem?_getD, List.getElem?_eq_none (by omega)]; rfl
  · rfl
theorem run_index_wA {P : Program} (w : World) (t e : TypeId) (n : Nat) (l : List UInt32) (i : Nat) (h : P.underlying t = some (.array n e)) (he : P.underlying e = some (.int .u32)) (hs : (Go.sizeOf e).run P w = .ok 1 w) (hl : l.length = n) (hi : i < n) :
    (Instr.index t (.agg (wA l)) (.int .i64 (i : Int))).run P w = .ok (.int .u32 ((l.getD i 0).toNat : Int)) w := run_index_at w t e n _ .i64 .u32 i _ h he hs hi (wA_get (by omega))
set_option maxRecDepth 100000 in
set_option maxHeartbeats 2000000 in
theorem constant_c (i : Int) (h : i.natAbs < 2 ^ 63) : Gives 59 #[.int .i64 i] (.int .u32 ((wordAt kL i).toNat : Int)) := fun w0 => by
  have C := constants_c
  by_cases h0 : 0 ≤ i
  · obtain ⟨n, rfl⟩ := Int.eq_ofNat_of_zero_le h0
    rcases Nat.lt_or_ge n 64 with h1 | h1
    · have hx := fun w => run_index_wA (P := Try.prog) w 137 43 64 kL n Try.underlying137 Try.underlying43 (by kernel_rfl) rfl h1
      have hn : ¬ (64 ≤ (n : Int)) := by omega
      rw [wordAt_nat]
      generalize (kL.getD n 0).toNat = v at *
      have M := Mem.nil w0; have F := Mem.facts M; simp only [MemFacts] at F; (try simp only [ApartFacts] at F)
      go_enter Try.func59, Try.ntmps59
      go_wp2_with (first | (go_at_call 117; (with_reducible refine (C _).mono ?_); rintro e w1 ⟨rfl, hb⟩; replace M := Mem.call (w0 := w0) (by repeat' (first | (with_reducible exact M) | (with_reducible apply Mem.drew) | (with_reducible apply Mem.alloc))) hb; clear hb; (try clear F); (try simp only [World.size_alloc] at M); (try simp only [heap_drew] at M); have F := Mem.facts M; simp only [MemFacts] at F; (try simp only [ApartFacts] at F)))
      (go_wp2_with (fail); refine bodyPost_ret (v := .int .u32 (v : Int)) (by simp [results, Try.results59, go_sem]) rfl ⟨rfl, (Mem.below (w0 := w0) (by repeat' (first | (with_reducible exact M) | (with_reducible apply Mem.drew) | (with_reducible apply Mem.alloc))))⟩)
    · rw [wordAt_out _ _ (.inr (by show (64 : Int) ≤ _; omega))]
      have hn : 64 ≤ (n : Int) := by omega
      have M := Mem.nil w0; have F := Mem.facts M; simp only [MemFacts] at F; (try simp only [ApartFacts] at F)
      go_enter Try.func59, Try.ntmps59
      go_wp2_with (first | (go_at_call 117; (with_reducible refine (C _).mono ?_); rintro e w1 ⟨rfl, hb⟩; replace M := Mem.call (w0 := w0) (by repeat' (first | (with_reducible exact M) | (with_reducible apply Mem.drew) | (with_reducible apply Mem.alloc))) hb; clear hb; (try clear F); (try simp only [World.size_alloc] at M); (try simp only [heap_drew] at M); have F := Mem.facts M; simp only [MemFacts] at F; (try simp only [ApartFacts] at F)))
      (go_wp2_with (fail); refine bodyPost_ret (v := .int .u32 0) (by simp [results, Try.results59, go_sem]) rfl ⟨rfl, (Mem.below (w0 := w0) (by repeat' (first | (with_reducible exact M) | (with_reducible apply Mem.drew) | (with_reducible apply Mem.alloc))))⟩)
  · rw [wordAt_out _ _ (.inl (by omega))]
    have hn : i < 0 := by omega
    have M := Mem.nil w0; have F := Mem.facts M; simp only [MemFacts] at F; (try simp only [ApartFacts] at F)
    go_enter Try.func59, Try.ntmps59
    go_wp2_with (first | (go_at_call 117; (with_reducible refine (C _).mono ?_); rintro e w1 ⟨rfl, hb⟩; replace M := Mem.call (w0 := w0) (by repeat' (first | (with_reducible exact M) | (with_reducible apply Mem.drew) | (with_reducible apply Mem.alloc))) hb; clear hb; (try clear F); (try simp only [World.size_alloc] at M); (try simp only [heap_drew] at M); have F := Mem.facts M; simp only [MemFacts] at F; (try simp only [ApartFacts] at F)))
    (go_wp2_with (fail); refine bodyPost_ret (v := .int .u32 0) (by simp [results, Try.results59, go_sem]) rfl ⟨rfl, (Mem.below (w0 := w0) (by repeat' (first | (with_reducible exact M) | (with_reducible apply Mem.drew) | (with_reducible apply Mem.alloc))))⟩)
end Go.Proofs.Ytkgjgdeaclefiaa
