/-
  sha2.Sum, Double, florinlaw02.awake.
-/
import Derived.Test.YtkgjgdeaclefiaaShaH
import Derived.Lib.SlBytesConst
namespace Go.Proofs.Ytkgjgdeaclefiaa
open Go Go.Proofs Go.RowKit Go.Flo

theorem outV_length (h : List UInt32) : (outV h).length = 32 := by simp [outV]
theorem sumV_length (l : List UInt8) : (sumV l).length = 32 := outV_length _
theorem dblV_length (l : List UInt8) : (dblV l).length = 32 := outV_length _
set_option maxRecDepth 100000 in
set_option maxHeartbeats 2000000 in
theorem sum_c (v : Value) (l : List UInt8) (hl : l.length ≤ 1000000) (w0 : World) (hI : Rd8 w0 v l) :
    Calls Try.prog 43 #[v] w0 fun e w' => e = .returned (.agg (bA (sumV l))) ∧ Below w0.heap.size w0 w' := by
  obtain ⟨a, cap, rfl⟩ := hI.shape
  have HI := Lib.hid hI
  have HL := Lib.hid hl
  clear hI hl
  have hs : (endS (writeS startS l)).length = 32 := sumV_length l
  have M := Mem.nil w0; have F := Mem.facts M; simp only [MemFacts] at F; (try simp only [ApartFacts] at F)
  go_enter Try.func43, Try.ntmps43
  go_wp2_with (first | (refine wl_box rfl 23 _ rfl rfl ?_) | (refine wl_alloc rfl 23 rfl hshZ ?_) | (go_at_call 41; (with_reducible refine (start_c _).mono ?_); rintro o w1 ⟨rfl, hb⟩; replace M := Mem.call (w0 := w0) (by repeat' (first | (with_reducible exact M) | (with_reducible apply Mem.drew) | (with_reducible apply Mem.alloc))) hb; clear hb; (try clear F); (try simp only [World.size_alloc] at M); (try simp only [heap_drew] at M); have F := Mem.facts M; simp only [MemFacts] at F; (try simp only [ApartFacts] at F)) | (go_at_call 40; refine (write_c _ _ startS l HL.out _ (rdS_start _) (HI.out.below (Mem.below (w0 := w0) (by repeat' (first | (with_reducible exact M) | (with_reducible apply Mem.drew) | (with_reducible apply Mem.alloc') | (simp only [World.size_alloc]; exact rfl) | exact rfl))))).mono ?_; rintro o w1 ⟨V2, rfl, hV2, hb⟩; replace M := Mem.call (w0 := w0) (by repeat' (first | (with_reducible exact M) | (with_reducible apply Mem.drew) | (with_reducible apply Mem.alloc))) hb; clear hb; (try clear F); (try simp only [World.size_alloc] at M); (try simp only [heap_drew] at M); have F := Mem.facts M; simp only [MemFacts] at F; (try simp only [ApartFacts] at F)) | (go_at_call 42; refine (end_c _ _ _ hV2).mono ?_; rintro o w1 ⟨rfl, hb⟩; replace M := Mem.call (w0 := w0) (by repeat' (first | (with_reducible exact M) | (with_reducible apply Mem.drew) | (with_reducible apply Mem.alloc))) hb; clear hb; (try clear F); (try simp only [World.size_alloc] at M); (try simp only [heap_drew] at M); have F := Mem.facts M; simp only [MemFacts] at F; (try simp only [ApartFacts] at F)) | (refine wl_isStore 23 (.tmp 2) _ rfl ?_; refine wl_storeM (w0 := w0) rfl 23 (.tmp 2) _ rfl hshT rfl rfl 0 (by repeat' (first | (with_reducible exact M) | (with_reducible apply Mem.drew) | (with_reducible apply Mem.alloc') | (simp only [World.size_alloc]; exact rfl) | exact rfl)) (by rfl) (by first | (rw [wA_size]; exact hs) | (rw [bA_size]; exact hs) | exact hs | exact rfl) (by first | (rw [wA_size]; exact nought_length) | (rw [bA_size]; exact nought_length) | exact nought_length | exact rfl) (by first | exact wA_one _ | exact bA_one _ | decide) ?_; clear M F; intro M; (try simp only [World.size_alloc, size_setRow] at M); (try simp only [List.set_cons_succ] at M); (try simp only [List.set_cons_zero] at M); have F := Mem.facts M; simp only [MemFacts] at F; (try simp only [ApartFacts] at F)))
  refine bodyPost_ret (results_cell_row Try.results43 _ _ _ 23 (bA (endS (writeS startS l))) (0, 0) _ rfl (M.at 0 rfl) hshT.under rfl (by rw [bA_size, hs]; exact hshT.size)) rfl ⟨rfl, M.below⟩
set_option maxRecDepth 100000 in
set_option maxHeartbeats 2000000 in
theorem double_c (v : Value) (l : List UInt8) (hl : l.length ≤ 1000000) (w0 : World) (hI : Rd8 w0 v l) :
    Calls Try.prog 50 #[v] w0 fun e w' => e = .returned (.agg (bA (dblV l))) ∧ Below w0.heap.size w0 w' := by
  have HI := Lib.hid hI
  have HL := Lib.hid hl
  clear hI hl
  have h1 : (sumV l).length = 32 := sumV_length l
  have h2 : (sumV (sumV l)).length = 32 := sumV_length _
  have M := Mem.nil w0; have F := Mem.facts M; simp only [MemFacts] at F; (try simp only [ApartFacts] at F)
  go_enter Try.func50, Try.ntmps50
  go_wp2_with (first | (refine wl_box rfl 23 _ rfl rfl ?_) | (refine wl_alloc rfl 23 rfl hshZ ?_) | (go_at_call 43; (first | refine (sum_c _ l HL.out _ (HI.out.below (Mem.below (w0 := w0) (by repeat' (first | (with_reducible exact M) | (with_reducible apply Mem.drew) | (with_reducible apply Mem.alloc') | (simp only [World.size_alloc]; exact rfl) | exact rfl))))).mono ?_ | refine (sum_c _ (sumV l) (by rw [h1]; decide) _ (Mem.rd8 (w0 := w0) 0 (by repeat' (first | (with_reducible exact M) | (with_reducible apply Mem.drew) | (with_reducible apply Mem.alloc') | (simp only [World.size_alloc]; exact rfl) | exact rfl)) (by rfl) h1 (by decide))).mono ?_); rintro o w1 ⟨rfl, hb⟩; replace M := Mem.call (w0 := w0) (by repeat' (first | (with_reducible exact M) | (with_reducible apply Mem.drew) | (with_reducible apply Mem.alloc))) hb; clear hb; (try clear F); (try simp only [World.size_alloc] at M); (try simp only [heap_drew] at M); have F := Mem.facts M; simp only [MemFacts] at F; (try simp only [ApartFacts] at F)) | (refine wl_isStore 23 (.tmp 3) _ rfl ?_; refine wl_storeM (w0 := w0) rfl 23 (.tmp 3) _ rfl hshT rfl rfl 0 (by repeat' (first | (with_reducible exact M) | (with_reducible apply Mem.drew) | (with_reducible apply Mem.alloc') | (simp only [World.size_alloc]; exact rfl) | exact rfl)) (by rfl) (by first | (rw [wA_size]; exact h1) | (rw [bA_size]; exact h1) | exact h1 | exact rfl) (by first | (rw [wA_size]; exact nought_length) | (rw [bA_size]; exact nought_length) | exact nought_length | exact rfl) (by first | exact wA_one _ | exact bA_one _ | decide) ?_; clear M F; intro M; (try simp only [World.size_alloc, size_setRow] at M); (try simp only [List.set_cons_succ] at M); (try simp only [List.set_cons_zero] at M); have F := Mem.facts M; simp only [MemFacts] at F; (try simp only [ApartFacts] at F)) | (refine wl_isStore 23 (.tmp 2) _ rfl ?_; refine wl_storeM (w0 := w0) rfl 23 (.tmp 2) _ rfl hshT rfl rfl 1 (by repeat' (first | (with_reducible exact M) | (with_reducible apply Mem.drew) | (with_reducible apply Mem.alloc') | (simp only [World.size_alloc]; exact rfl) | exact rfl)) (by rfl) (by first | (rw [wA_size]; exact h2) | (rw [bA_size]; exact h2) | exact h2 | exact rfl) (by first | (rw [wA_size]; exact nought_length) | (rw [bA_size]; exact nought_length) | exact nought_length | exact rfl) (by first | exact wA_one _ | exact bA_one _ | decide) ?_; clear M F; intro M; (try simp only [World.size_alloc, size_setRow] at M); (try simp only [List.set_cons_succ] at M); (try simp only [List.set_cons_zero] at M); have F := Mem.facts M; simp only [MemFacts] at F; (try simp only [ApartFacts] at F)))
  refine bodyPost_ret (results_cell_row Try.results50 _ _ _ 23 (bA (sumV (sumV l))) (0, 0) _ rfl (M.at 1 rfl) hshT.under rfl (by rw [bA_size, h2]; exact hshT.size)) rfl ⟨rfl, M.below⟩
theorem abc_rd (w : World) (fr : Nat × Nat) : Rd8 (w.alloc (.cells #[.int .u8 97, .int .u8 98, .int .u8 99] 5 fr)) (.slice (some ⟨w.heap.size, 0, none⟩) 3 3) [97, 98, 99] := by
  refine .inr ⟨by decide, w.heap.size, 0, 3, rfl, by simp, by decide, fun j hj => ?_⟩
  rw [Nat.zero_add, cell_of_row _ _ _ _ _ _ (Go.heap_alloc_new w _)]
  match j, hj with
  | 0, _ => rw [at8_get (by decide)]; rfl
  | 1, _ => rw [at8_get (by decide)]; rfl
  | 2, _ => rw [at8_get (by decide)]; rfl
theorem abc_at : (bA (sumV [97, 98, 99]))[0]? = some (.int .u8 186) ∧ (bA (sumV [97, 98, 99]))[1]? = some (.int .u8 120) ∧ (bA (sumV [97, 98, 99]))[31]? = some (.int .u8 173) := by
  unfold bA
  exact ⟨by kernel_rfl, by kernel_rfl, by kernel_rfl⟩
set_option maxRecDepth 100000 in
set_option maxHeartbeats 2000000 in
theorem awake2 : Gives 39 #[] (.bool true) := fun w0 => by
  have h1 : (sumV [97, 98, 99]).length = 32 := sumV_length _
  obtain ⟨g0, g1, g2⟩ := abc_at
  have S1 := fun v w hI => sum_c v [97, 98, 99] (by decide) w hI
  generalize sumV [97, 98, 99] = hh at *
  have kc := fun (w : World) (C : Array Value) (n c : Nat) => Lib.run_convert_bytes_const (P := Try.prog) w 42 5 C n c Try.underlying42 Try.underlying5
  have M := Mem.nil w0; have F := Mem.facts M; simp only [MemFacts] at F; (try simp only [ApartFacts] at F)
  go_enter Try.func39, Try.ntmps39
  go_wp2_with (first | (refine wl_box rfl 23 _ rfl rfl ?_) | (refine wl_alloc rfl 23 rfl hshZ ?_) | (go_at_call 43; refine (S1 _ _ (abc_rd w0 _)).mono ?_; rintro o w1 ⟨rfl, hb⟩; replace M := Mem.call (w0 := w0) (Mem.allocO rfl M) hb; clear hb F; have F := Mem.facts M; simp only [MemFacts] at F; (try simp only [ApartFacts] at F)) | (refine wl_isStore 23 (.tmp 1) _ rfl ?_; refine wl_storeM (w0 := w0) rfl 23 (.tmp 1) _ rfl hshT rfl rfl 0 (by repeat' (first | (with_reducible exact M) | (with_reducible apply Mem.drew) | (with_reducible apply Mem.alloc') | (simp only [World.size_alloc]; exact rfl) | exact rfl)) (by rfl) (by first | (rw [wA_size]; exact h1) | (rw [bA_size]; exact h1) | exact h1 | exact rfl) (by first | (rw [wA_size]; exact nought_length) | (rw [bA_size]; exact nought_length) | exact nought_length | exact rfl) (by first | exact wA_one _ | exact bA_one _ | decide) ?_; clear M F; intro M; (try simp only [World.size_alloc, size_setRow] at M); (try simp only [List.set_cons_succ] at M); (try simp only [List.set_cons_zero] at M); have F := Mem.facts M; simp only [MemFacts] at F; (try simp only [ApartFacts] at F)))
  (go_wp2_with (fail); refine bodyPost_ret (v := .bool true) (by simp [results, Try.results39, go_sem]) rfl ⟨rfl, (Mem.below (w0 := w0) (by repeat' (first | (with_reducible exact M) | (with_reducible apply Mem.drew) | (with_reducible apply Mem.alloc))))⟩)
/-! Strings of bytes that are read. -/
theorem push_list (l : List UInt8) : ∀ s : ByteArray, (l.map fun x => (x.toNat : Int)).foldl (fun r n => r.push (UInt8.ofNat n.toNat)) s = ⟨s.data ++ l.toArray⟩ := by
  induction l with
  | nil => intro s; simp
  | cons x l ih =>
    intro s
    rw [List.map_cons, List.foldl_cons, ih]
    congr 1
    apply Array.ext'
    simp [ByteArray.push]
theorem rd8_string {src dst e : TypeId} {w : World} {v : Value} {l : List UInt8} (hs : Try.prog.underlying src = some (.slice e)) (he : Try.prog.underlying e = some (.int .u8)) (hd : Try.prog.underlying dst = some .string)
    (h : Rd8 w v l) : (convert src dst v).run Try.prog w = .ok (.string ⟨l.toArray⟩) w := by
  have fin (a : Addr) (c : Nat) (hc : ∀ j u, (l.map fun x => Value.int .u8 (x.toNat : Int))[j]? = some u → w.cell? (a.add j) = some u) : (convert src dst (.slice (some a) l.length c)).run Try.prog w = .ok (.string ⟨l.toArray⟩) w := by
    rw [run_convert_bytes_string w src dst e _ _ _ hs he hd]
    have h1 := run_loadCells_list (P := Try.prog) w a (l.map fun x => Value.int .u8 (x.toNat : Int)) hc
    rw [List.length_map] at h1
    have h2 := run_bytesToString (P := Try.prog) w a l.length c (l.map fun x => (x.toNat : Int)) (by rw [h1, List.map_map]; rfl)
    rw [h2, push_list]
    simp
  rcases h with ⟨rfl, a, c, rfl⟩ | ⟨h0, b, off, c, rfl, hb, hc, hj⟩
  · cases a with
    | none =>
      rw [run_convert_bytes_string w src dst e _ _ _ hs he hd]
      unfold Conv.bytesToString
      simp [Sem.run_pure]
      rfl
    | some a => exact fin a c (by simp)
  · refine fin ⟨b, off, none⟩ c fun j u hu => ?_
    have hlt : j < l.length := by
      rcases Nat.lt_or_ge j l.length with h | h
      · exact h
      · rw [List.getElem?_eq_none (by simpa using h)] at hu; cases hu
    have e1 : (⟨b, off, none⟩ : Addr).add j = ⟨b, off + j, none⟩ := by
      cases j with
      | zero => simp [Addr.add]
      | succ j => simp [Addr.add]
    rw [e1, hj j hlt, at8_get hlt]
    simpa [hlt] using hu
end Go.Proofs.Ytkgjgdeaclefiaa
