/-
  u256.Hex.
-/
import Derived.Test.YtkgjgdeaclefiaaU256c
import Derived.Test.YtkgjgdeaclefiaaMix2
import Derived.Test.YtkgjgdeaclefiaaIxs
import Derived.Laws.BytesString
import Derived.Laws.AppendOwn
namespace Go.Proofs.Ytkgjgdeaclefiaa
open Go Go.Proofs Go.RowKit Go.Flo

/-- A digit's sign. -/
def sgn (d : Nat) : Int := if d < 10 then 48 + d else 87 + d
/-- The first t signs of the last K + 1. -/
def hexL (m K t : Nat) : List Int := (List.range t).map fun s => sgn (m / 16 ^ (K - s) % 16)
def strOf (ns : List Int) : ByteArray := ns.foldl (fun r n => r.push (UInt8.ofNat n.toNat)) ByteArray.empty
def hexS (m : Nat) : ByteArray := strOf (hexL m ((lenN m - 1) / 4) ((lenN m - 1) / 4 + 1))

theorem own_string {e src dst : TypeId} {w : World} {base n : Nat} {v : Value} {xs : List Int} (hs : Try.prog.underlying src = some (.slice e)) (he : Try.prog.underlying e = some (.int .u8)) (hd : Try.prog.underlying dst = some .string)
    (h : w.ownsRow base e 1 v n (xs.map (Value.int .u8))) (hn : 0 < n) : (convert src dst v).run Try.prog w = .ok (.string (strOf xs)) w := by
  have h' := h
  obtain ⟨hl, ⟨_, rfl⟩ | ⟨g, cap, cur, rfl, _, hg, _, _, _, ht⟩⟩ := h
  · omega
  · rw [run_convert_bytes_string w src dst e _ _ _ hs he hd]
    refine run_bytesToString w ⟨g, 0, none⟩ n cap xs ?_
    have hl' : (xs.map (Value.int .u8)).length = n := by simpa using hl
    rw [← hl']
    exact run_loadCells_list w ⟨g, 0, none⟩ _ (h'.cells rfl)

theorem sgn_get (d : Nat) (hd : d < 16) (h : ((d : Int)).toNat < (ByteArray.mk #[48, 49, 50, 51, 52, 53, 54, 55, 56, 57, 97, 98, 99, 100, 101, 102]).size) :
    ((((ByteArray.mk #[48, 49, 50, 51, 52, 53, 54, 55, 56, 57, 97, 98, 99, 100, 101, 102])[((d : Int)).toNat]'h).toNat : Nat) : Int) = sgn d := by
  have key : ∀ d : Fin 16, ∀ h, ((((ByteArray.mk #[48, 49, 50, 51, 52, 53, 54, 55, 56, 57, 97, 98, 99, 100, 101, 102])[((d.1 : Int)).toNat]'h).toNat : Nat) : Int) = sgn d.1 := by decide +kernel
  exact key ⟨d, hd⟩ h
theorem hexL_succ (m K t : Nat) : hexL m K (t + 1) = hexL m K t ++ [sgn (m / 16 ^ (K - t) % 16)] := by
  unfold hexL
  rw [List.range_succ, List.map_append]
  rfl

theorem own_below {w w' : World} {base n size : Nat} {e : TypeId} {v : Value} {xs : List Value} (h : w.ownsRow base e size v n xs) (hb : Below w.heap.size w w') : w'.ownsRow base e size v n xs := by
  obtain ⟨hl, h0 | ⟨g, cap, cur, hv, hb', hg, rest⟩⟩ := h
  · exact ⟨hl, .inl h0⟩
  · exact ⟨hl, .inr ⟨g, cap, cur, hv, hb', (hb.block g (heap_lt hg)).trans hg, rest⟩⟩
theorem locs_belowN {B : Nat} {w w' : World} {l : List (Nat × Array Value × TypeId)} (h : Locs w l) (hl : ∀ x ∈ l, x.1 < B) (hb : Below B w w') : Locs w' l := h.others fun x hx => hb.block _ (hl x hx)

structure HexR (m K : Nat) (w0 : World) (v i : Value) (wr : World) (t : Nat) : Prop where
  le : t ≤ K + 1
  at_ : i = .int .i64 ((K : Int) - t)
  own : wr.ownsRow (w0.heap.size + 1) 5 1 v t ((hexL m K t).map (Value.int .u8))
  locs : Locs wr [(w0.heap.size, #[.int .u64 (l0 m), .int .u64 (l1 m), .int .u64 (l2 m), .int .u64 (l3 m)], 32)]
  below : Below w0.heap.size w0 wr

theorem hexK (m : Nat) (hm : m < top) : ∃ K : Nat, Hid (K = (lenN m - 1) / 4) ∧ K ≤ 63 ∧ lenN m ≤ 256 ∧ max ((lenN m : Int) - 1) 0 / 4 = (K : Int) := by
  have h := lenN_top hm
  exact ⟨_, rfl, by omega, h, by omega⟩

theorem hex_digit (m j : Nat) : ∃ X d : Nat, Hid (X = m / 2 ^ ((j : Int) * 4).toNat) ∧ d < 16 ∧ Hid (d = m / 16 ^ j % 16) ∧ bits .and .u64 (l0 X) 15 = (d : Int) := by
  refine ⟨_, _, rfl, ?_, rfl, ?_⟩
  · omega
  · have e : ((j : Int) * 4).toNat = 4 * j := by omega
    rw [e]
    unfold l0
    rw [show (15 : Int) = ((15 : Nat) : Int) from rfl, Go.u64_and_nat _ _ (Nat.mod_lt _ (by decide)) (by decide)]
    congr 1
    rw [show (15 : Nat) = 2 ^ 4 - 1 from rfl, Nat.and_two_pow_sub_one_eq_mod, Nat.pow_mul, show (2 ^ 4 : Nat) = 16 from rfl]
    omega

set_option maxRecDepth 100000 in
set_option maxHeartbeats 4000000 in
theorem hex_c (m : Nat) (hm : m < top) (w0 : World) :
    Calls Try.prog 83 #[uV m] w0 fun e w' => e = .returned (.string (hexS m)) ∧ Below w0.heap.size w0 w' := by
  obtain ⟨K, hK, hK63, hL, eK⟩ := hexK m hm
  obtain ⟨i0, hi, hz0, hz1, hz2⟩ : ∃ i : TypeInfo, Try.prog.info? 5 = some i ∧ i.zero = some (.int .u8 0) ∧ i.size = 1 ∧ i.bytes = 1 := ⟨_, rfl, rfl, rfl, rfl⟩
  have L := Locs.nil w0; have B := Below.refl w0.heap.size w0; have Bz := B.size; have F := Locs.facts L; simp only [LocFacts] at F
  go_enter Try.func83, Try.ntmps83
  go_wp2_with (first | (go_at_call 69; (with_reducible refine ((len_c m hm) _).mono ?_); rintro e w1 ⟨rfl, hb⟩; replace L := Locs.below (by (first | (with_reducible exact L) | (with_reducible exact Locs.push L) | (with_reducible exact Locs.push (Locs.push L)) | (with_reducible exact Locs.push (Locs.push (Locs.push L))) | (with_reducible exact Locs.push (Locs.push (Locs.push (Locs.push L)))) | (with_reducible exact Locs.drew L) | (with_reducible exact Locs.drew (Locs.push L)) | (with_reducible exact Locs.push (Locs.drew L)))) hb; (replace B := Flo.below_step (w := w0) (by repeat' (first | (with_reducible exact Below.refl _ _) | (with_reducible assumption) | (with_reducible refine Below.drew ?_) | (with_reducible refine Below.alloc ?_ ?_ _) | (with_reducible refine Below.setCell ?_ ?_ _) | (with_reducible refine Flo.below_step ?_ (by assumption)) | (simp; done) | (simp; omega))) hb); clear hb; (try clear F); (try clear Bz); (try simp only [World.size_alloc] at L); (try simp only [heap_drew] at L); have Bz := B.size; have F := Locs.facts L; simp only [LocFacts] at F))
  rw [eK]
  clear eK hL
  have L1 := L.2
  go_loopw [3, 4] (fun v i wr => ∃ t, HexR m K w0 v i wr t) (fun _ i _ => (intOf i + 1).toNat)
  case atStart => exact ⟨0, Nat.zero_le _, by simp, ⟨rfl, .inr ⟨_, 0, #[], rfl, by omega, L.1, by omega, by decide, rfl, rfl⟩⟩, L1, B⟩
  case round =>
    obtain ⟨t, le, rfl, own, L2, B2⟩ := hrel
    rcases Nat.lt_or_ge K t with hlt | hge
    · obtain rfl : t = K + 1 := by omega
      have ei : ((K : Int) - ((K + 1 : Nat) : Int)) = -1 := by omega
      rw [ei]
      have hconv := own_string Try.underlying42 Try.underlying5 Try.underlying9 own (by omega)
      go_wp2
      refine bodyPost_ret (v := .string (hexS m)) (by simp [results, Try.results83, go_sem, hexS, hK.out]) rfl ⟨rfl, B2⟩
    · obtain ⟨j, hj⟩ : ∃ j, K = t + j := ⟨K - t, by omega⟩
      have ei : ((K : Int) - (t : Int)) = (j : Int) := by omega
      have hj63 : j ≤ 63 := by omega
      rw [ei]
      obtain ⟨X, d, hX, hd16, hd, hb⟩ := hex_digit m j
      have cS := fun w => shr_c m hm ((j : Int) * 4) w
      rw [← hX.out] at cS
      unfold uV at cS
      have Hj := Lib.hid hj
      have Hle := Lib.hid hge
      clear L1 L B F Bz ei hj hge
      have L := L2
      have B := B2
      have Bz := B.size
      have F := Locs.facts L
      simp only [LocFacts] at F
      clear L2 B2
      go_wp2_with (first
        | (go_at_call 76; (with_reducible refine (cS _).mono ?_); rintro e w1 ⟨rfl, hb1⟩)
        | (at_builtin; refine wpList_append_own _ rfl _ _ 42 rfl (w0.heap.size + 1) 5 i0 (.int .u8 0) 1 1 Try.underlying42 hi hz0 hz1 hz2 rfl (by decide) _ _ _ rfl ((own_below own hb1).alloc _) ⟨w1.heap.size, 0, none⟩ 1 1 [.int .u8 (sgn d)] rfl rfl ?c1 ?c2 ?c3 ?c4 ?c5 ?_))
      case c1 =>
        intro k u hk
        match k, hk with
        | 0, hk => simp at hk; subst hk; rw [← sgn_get d hd16 (by exact hd16)]; simp [Addr.add, go_sem]
      case c2 => intro u hu; simp at hu; subst hu; rfl
      case c3 => have := Hj.out; unfold maxLen; omega
      case c4 => have := Hj.out; omega
      case c5 => have := hb1.size; simp; omega
      intro v' w2 hown' hgrow _
      have R : HexR m K w0 v' (.int .i64 ((j : Int) - 1)) w2 (t + 1) := by
        have hj := Hj.out
        have z1 := hb1.size
        have hlt := own.lt
        refine ⟨by omega, by congr 1; omega, ?_, ?_, ?_⟩
        · rw [hexL_succ, List.map_append, show K - t = j by omega, ← hd.out]
          exact hown'
        · refine locs_belowN (B := w0.heap.size + 1) L (by simp) ?_
          refine Below.grown (((hb1.mono (by omega)).alloc (by omega) _)) hgrow (by simp; omega) (fun k hk => (hlt k hk).1)
        · refine Below.grown ((below_step B hb1).alloc (by omega) _) hgrow (by simp; omega) (fun k hk => Nat.le_of_succ_le (hlt k hk).1)
      clear own hown' hgrow
      go_wp2
      exact ⟨⟨_, R⟩, by simp only [intOf]; omega⟩
end Go.Proofs.Ytkgjgdeaclefiaa
