/-
  Plain: a hash's text and its number. florinlaw03.awake.
-/
import Derived.Test.YtkgjgdeaclefiaaHsh
import Derived.Test.YtkgjgdeaclefiaaBack1
import Derived.Test.YtkgjgdeaclefiaaShifts
namespace Go.Flo
open Go Go.RowKit
theorem beN_inj : ∀ {k l : List UInt8}, k.length = l.length → beN k = beN l → k = l
  | [], [], _, _ => rfl
  | [], _ :: _, h, _ => by simp at h
  | _ :: _, [], h, _ => by simp at h
  | x :: k, y :: l, h, e => by
    have hl : k.length = l.length := by simpa using h
    rw [beN_cons, beN_cons, hl] at e
    have h1 := beN_lt k
    have h2 := beN_lt l
    rw [hl] at h1
    have h3 : x.toNat = y.toNat := by
      have : (x.toNat * 256 ^ l.length + beN k) / 256 ^ l.length = (y.toNat * 256 ^ l.length + beN l) / 256 ^ l.length := by rw [e]
      rwa [Nat.mul_comm, Nat.mul_add_div (by omega), Nat.div_eq_of_lt h1, Nat.mul_comm y.toNat, Nat.mul_add_div (by omega), Nat.div_eq_of_lt h2, Nat.add_zero, Nat.add_zero] at this
    have h4 : x = y := UInt8.toNat_inj.1 h3
    subst h4
    rw [beN_inj hl (by omega)]
end Go.Flo
namespace Go.Proofs.Ytkgjgdeaclefiaa
open Go Go.Proofs Go.RowKit Go.Flo

theorem bytesOf_beN {l : List UInt8} (hl : l.length = 32) : bytesOf (beN l) = l :=
  beN_inj (by rw [bytesOf_length, hl]) (beN_bytesOf (beN_top (by omega)))
def txt8 (r : List UInt8) : List UInt8 := (r.flatMap two).map sg8
theorem txt8_cons (x : UInt8) (r : List UInt8) : txt8 (x :: r) = sg8 (sgn (x.toNat / 16)) :: sg8 (sgn (x.toNat % 16)) :: txt8 r := by simp [txt8, two]
theorem txt8_length (r : List UInt8) : (txt8 r).length = 2 * r.length := by
  induction r with
  | nil => rfl
  | cons x r ih => rw [txt8_cons, List.length_cons, List.length_cons, ih, List.length_cons]; omega
theorem txt8_hv : ∀ (r : List UInt8) (k : Nat) (h : k < r.length), hv (txt8 r) (2 * k) = r[k].toNat / 16 ∧ hv (txt8 r) (2 * k + 1) = r[k].toNat % 16
  | [], _, h => by simp at h
  | x :: r, 0, _ => by
    have := x.toNat_lt
    constructor
    · unfold hv; rw [txt8_cons]; show hexv (sg8 (sgn (x.toNat / 16))) = _; unfold hexv; rw [hexd_sgn (by omega)]; rfl
    · unfold hv; rw [txt8_cons]; show hexv (sg8 (sgn (x.toNat % 16))) = _; unfold hexv; rw [hexd_sgn (by omega)]; rfl
  | x :: r, k + 1, h => by
    have ih := txt8_hv r k (by simpa using h)
    rw [show 2 * (k + 1) = 2 * k + 2 by omega, txt8_cons]
    exact ih
theorem txt8_all (r : List UInt8) : (txt8 r).all isHex = true := by
  rw [List.all_eq_true]
  intro y hy
  obtain ⟨n, hn, rfl⟩ := List.mem_map.1 hy
  obtain ⟨x, _, hx⟩ := List.mem_flatMap.1 hn
  have := x.toNat_lt
  simp only [two, List.mem_cons, List.not_mem_nil, or_false] at hx
  rcases hx with rfl | rfl
  · unfold isHex; rw [hexd_sgn (by omega)]; rfl
  · unfold isHex; rw [hexd_sgn (by omega)]; rfl
def txtS (l : List UInt8) : ByteArray := strOf (txtI l)
theorem txtS_list (l : List UInt8) : (txtS l).data.toList = txt8 l.reverse := strOf_list _
theorem txtS_size {l : List UInt8} (hl : l.length = 32) : (txtS l).size = 64 := by
  have h := congrArg List.length (txtS_list l)
  rw [txt8_length, List.length_reverse, hl] at h
  simpa using h
theorem parse_txtS {l : List UInt8} (hl : l.length = 32) : parseT (txtS l).data.toList = (l, 0) := by
  rw [txtS_list]
  unfold parseT
  rw [if_pos ⟨by rw [txt8_length, List.length_reverse, hl], txt8_all _⟩]
  congr 1
  symm
  refine tab_ext hl fun j hj => ?_
  have h := txt8_hv l.reverse (31 - j) (by rw [List.length_reverse]; omega)
  unfold unf
  rw [if_pos (by omega), h.1, h.2, List.getElem_reverse]
  have e : l.length - 1 - (31 - j) = j := by omega
  simp only [e]
  have := l[j].toNat_lt
  rw [show l[j].toNat / 16 * 16 + l[j].toNat % 16 = l[j].toNat by omega]
  simp
theorem beN_nought : beN nought.reverse = 0 := by decide +kernel
/-- Nought is nought. -/
theorem nought_isZ {l : List UInt8} (hl : l.length = 32) : (l == nought) = isZ (beN l.reverse) := by
  rw [isZ_eq (beN_top (by rw [List.length_reverse]; omega)), Bool.eq_iff_iff, beq_iff_eq, decide_eq_true_eq]
  constructor
  · rintro rfl; exact beN_nought
  · intro h
    have := beN_inj (k := l.reverse) (l := nought.reverse) (by rw [List.length_reverse, List.length_reverse, hl]; rfl) (by rw [h, beN_nought])
    have := congrArg List.reverse this
    rwa [List.reverse_reverse, List.reverse_reverse] at this

/-! ### awake -/
def one32 : List UInt8 := 1 :: List.replicate 31 0
theorem one32_length : one32.length = 32 := rfl
theorem bA_one32 : bA one32 = #[.int .u8 1, .int .u8 0, .int .u8 0, .int .u8 0, .int .u8 0, .int .u8 0, .int .u8 0, .int .u8 0, .int .u8 0, .int .u8 0, .int .u8 0, .int .u8 0, .int .u8 0, .int .u8 0, .int .u8 0, .int .u8 0, .int .u8 0, .int .u8 0, .int .u8 0, .int .u8 0, .int .u8 0, .int .u8 0, .int .u8 0, .int .u8 0, .int .u8 0, .int .u8 0, .int .u8 0, .int .u8 0, .int .u8 0, .int .u8 0, .int .u8 0, .int .u8 0] := by
  unfold bA
  rfl
theorem beN_one32 : beN one32.reverse = 1 := by decide +kernel
theorem num_awake : Gives 31 #[.agg (bA one32)] (uV 1) := fun w => by
  have := hnumber_c one32 rfl w
  rwa [beN_one32] at this
theorem zero_awake : Gives 32 #[.agg #[.int .u8 0, .int .u8 0, .int .u8 0, .int .u8 0, .int .u8 0, .int .u8 0, .int .u8 0, .int .u8 0, .int .u8 0, .int .u8 0, .int .u8 0, .int .u8 0, .int .u8 0, .int .u8 0, .int .u8 0, .int .u8 0, .int .u8 0, .int .u8 0, .int .u8 0, .int .u8 0, .int .u8 0, .int .u8 0, .int .u8 0, .int .u8 0, .int .u8 0, .int .u8 0, .int .u8 0, .int .u8 0, .int .u8 0, .int .u8 0, .int .u8 0, .int .u8 0]] (.bool true) := fun w => by
  have := hzero_c nought rfl w
  rwa [bA_nought, show (nought == nought) = true from by decide] at this
def txt1 : ByteArray := ⟨#[48, 48, 48, 48, 48, 48, 48, 48, 48, 48, 48, 48, 48, 48, 48, 48, 48, 48, 48, 48, 48, 48, 48, 48, 48, 48, 48, 48, 48, 48, 48, 48, 48, 48, 48, 48, 48, 48, 48, 48, 48, 48, 48, 48, 48, 48, 48, 48, 48, 48, 48, 48, 48, 48, 48, 48, 48, 48, 48, 48, 48, 48, 48, 49]⟩
theorem txt_awake : Gives 29 #[.agg (bA one32)] (.string txt1) := fun w => by
  have := htext_c one32 rfl w
  have e : strOf (txtI one32) = txt1 := by kernel_rfl
  rwa [e] at this

set_option maxRecDepth 100000 in
set_option maxHeartbeats 4000000 in
theorem awake3 (w0 : World) : Calls Try.prog 27 #[] w0 fun e w' => e = .returned (.bool true) ∧ Below w0.heap.size w0 w' := by
  have O1 : Gives 72 #[.int .u64 1] (uV 1) := of_lit 1 (by decide)
  have hs : txt1.size = 64 := rfl
  have hx : (txt1.extract 62 64).toList = [48, 49] := by decide +kernel
  have T1 := txt_awake
  generalize txt1 = s at *
  have M := Mem.nil w0; have F := Mem.facts M; simp only [MemFacts] at F; (try simp only [ApartFacts] at F)
  go_enter Try.func27, Try.ntmps27
  go_wp2_with (first | (refine wl_box rfl 23 _ rfl rfl ?_) | (refine wl_alloc rfl 23 rfl hshZ ?_) | (refine wl_load rfl 23 _ rfl hshT rfl (Mem.at (w0 := w0) 0 (by repeat' (first | (with_reducible exact M) | (with_reducible apply Mem.drew) | (with_reducible apply Mem.alloc') | (simp only [World.size_alloc]; exact rfl) | exact rfl)) (by rfl)) (by rw [bA_size]; exact one32_length) ?_) | (refine wl_storenew (c := bA one32) rfl 23 _ _ rfl hshT rfl rfl (by rw [bA_one32]; rfl) ?_ ?_ (bA_one _) ?_; (focus (rw [bA_size]; rfl)); (focus (rw [bA_size]; exact nought_length))) | (go_at_call 29; (with_reducible refine (T1 _).mono ?_); rintro e w1 ⟨rfl, hb⟩; replace M := Mem.call (w0 := w0) (by repeat' (first | (with_reducible exact M) | (with_reducible apply Mem.drew) | (with_reducible apply Mem.alloc))) hb; clear hb; (try clear F); (try simp only [World.size_alloc] at M); (try simp only [heap_drew] at M); have F := Mem.facts M; simp only [MemFacts] at F; (try simp only [ApartFacts] at F)) | (go_at_call 31; (with_reducible refine (num_awake _).mono ?_); rintro e w1 ⟨rfl, hb⟩; replace M := Mem.call (w0 := w0) (by repeat' (first | (with_reducible exact M) | (with_reducible apply Mem.drew) | (with_reducible apply Mem.alloc))) hb; clear hb; (try clear F); (try simp only [World.size_alloc] at M); (try simp only [heap_drew] at M); have F := Mem.facts M; simp only [MemFacts] at F; (try simp only [ApartFacts] at F)) | (go_at_call 72; (with_reducible refine (O1 _).mono ?_); rintro e w1 ⟨rfl, hb⟩; replace M := Mem.call (w0 := w0) (by repeat' (first | (with_reducible exact M) | (with_reducible apply Mem.drew) | (with_reducible apply Mem.alloc))) hb; clear hb; (try clear F); (try simp only [World.size_alloc] at M); (try simp only [heap_drew] at M); have F := Mem.facts M; simp only [MemFacts] at F; (try simp only [ApartFacts] at F)) | (go_at_call 32; (with_reducible refine (zero_awake _).mono ?_); rintro e w1 ⟨rfl, hb⟩; replace M := Mem.call (w0 := w0) (by repeat' (first | (with_reducible exact M) | (with_reducible apply Mem.drew) | (with_reducible apply Mem.alloc))) hb; clear hb; (try clear F); (try simp only [World.size_alloc] at M); (try simp only [heap_drew] at M); have F := Mem.facts M; simp only [MemFacts] at F; (try simp only [ApartFacts] at F)))
  (go_wp2_with (fail); refine bodyPost_ret (v := .bool true) (by simp [results, Try.results27, go_sem]) rfl ⟨rfl, (Mem.below (w0 := w0) (by repeat' (first | (with_reducible exact M) | (with_reducible apply Mem.drew) | (with_reducible apply Mem.alloc))))⟩)
end Go.Proofs.Ytkgjgdeaclefiaa
