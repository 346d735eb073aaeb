import Derived.Test.YtkgjgdeaclefiaaUa
import Derived.Test.YtkgjgdeaclefiaaLx
import Derived.RangeFuncBox
import Derived.RangeFuncLeaves
import Derived.Shelf.Abstract
import Derived.WalkKit
import Derived.OwnWalkIn
import Derived.TacticsInMore
import Derived.LoopNIn
import Derived.LoopIn
import Derived.Test.YtkgjgdeaclefiaaProg
import Derived.Laws.RangeAny

/-! Plain numbers: bytes and the number that they are. No program is named here. -/
namespace Go.Flo
open Go Go.RowKit

theorem or_byte (qq c n j p : Nat) (hn : n = 64 * j + p) : bits .or .u64 (li j qq) (IntKind.u64.wrap ((c : Int) * 2 ^ p)) = li j (qq ||| c * 2 ^ n) := by
  unfold li
  rw [wrap_cast c p, or_cast _ _ (pow64 _) (pow64 _)]
  congr 1
  apply Nat.eq_of_testBit_eq
  intro k
  simp only [Nat.testBit_or, Nat.testBit_mod_two_pow, Nat.testBit_div_two_pow, Nat.testBit_mul_two_pow]
  by_cases hk : k < 64
  · have h1 : (p ≤ k) = (n ≤ k + 64 * j) := by apply propext; omega
    have h2 : k - p = k + 64 * j - n := by omega
    simp [hk, h1, h2]
  · simp [hk]
theorem or_byte_ne (qq c n i j p : Nat) (hn : n = 64 * j + p) (hc : c < 256) (hp : p ≤ 56) (hi : i ≠ j) : li i (qq ||| c * 2 ^ n) = li i qq := by
  unfold li
  congr 1
  apply Nat.eq_of_testBit_eq
  intro k
  simp only [Nat.testBit_or, Nat.testBit_mod_two_pow, Nat.testBit_div_two_pow, Nat.testBit_mul_two_pow]
  by_cases hk : k < 64
  · by_cases h1 : n ≤ k + 64 * i
    · have h2 : c.testBit (k + 64 * i - n) = false := Nat.testBit_lt_two_pow (Nat.lt_of_lt_of_le hc (show 2 ^ 8 ≤ 2 ^ (k + 64 * i - n) from Nat.pow_le_pow_right (by decide) (by omega)))
      simp [h2]
    · simp [h1]
  · simp [hk]
theorem four0 : #[Value.int .u64 (l0 0), .int .u64 (l1 0), .int .u64 (l2 0), .int .u64 (l3 0)] = #[.int .u64 0, .int .u64 0, .int .u64 0, .int .u64 0] := by
  have e0 : l0 0 = 0 := by unfold l0; rfl
  have e1 : l1 0 = 0 := by unfold l1; rfl
  have e2 : l2 0 = 0 := by unfold l2; rfl
  have e3 : l3 0 = 0 := by unfold l3; rfl
  rw [e0, e1, e2, e3]
/-- A byte is laid in at place t. -/
theorem four_byte (qq c t p q : Nat) (hp : p = t % 8 * 8) (hq : t / 8 = q) (h3 : q ≤ 3) (hc : c < 256) :
    (#[Value.int .u64 (l0 qq), .int .u64 (l1 qq), .int .u64 (l2 qq), .int .u64 (l3 qq)]).setIfInBounds q (.int .u64 (bits .or .u64 (li q qq) (IntKind.u64.wrap ((c : Int) * 2 ^ p)))) =
      #[.int .u64 (l0 (qq ||| c * 2 ^ (8 * t))), .int .u64 (l1 (qq ||| c * 2 ^ (8 * t))), .int .u64 (l2 (qq ||| c * 2 ^ (8 * t))), .int .u64 (l3 (qq ||| c * 2 ^ (8 * t)))] := by
  have hn : 8 * t = 64 * q + p := by omega
  have e := or_byte qq c (8 * t) q p hn
  have n (i : Nat) (hi : i ≠ q) := or_byte_ne qq c (8 * t) i q p hn hc (by omega) hi
  simp only [l0_li, l1_li, l2_li, l3_li, e]
  match q, h3, n with
  | 0, _, n => rw [n 1 (by decide), n 2 (by decide), n 3 (by decide)]; rfl
  | 1, _, n => rw [n 0 (by decide), n 2 (by decide), n 3 (by decide)]; rfl
  | 2, _, n => rw [n 0 (by decide), n 1 (by decide), n 3 (by decide)]; rfl
  | 3, _, n => rw [n 0 (by decide), n 1 (by decide), n 2 (by decide)]; rfl

/-- The number that bytes are, the highest first. -/
def beN (l : List UInt8) : Nat := l.foldl (fun a x => a * 256 + x.toNat) 0
theorem beN_from (l : List UInt8) : ∀ a, l.foldl (fun a x => a * 256 + x.toNat) a = a * 256 ^ l.length + beN l := by
  unfold beN
  induction l with
  | nil => intro a; simp
  | cons x l ih =>
    intro a
    rw [List.foldl_cons, List.foldl_cons, ih, ih (0 * 256 + x.toNat), List.length_cons, Nat.pow_succ]
    rw [Nat.add_mul, Nat.zero_mul, Nat.zero_add, Nat.mul_assoc, Nat.mul_comm 256, Nat.add_assoc]
theorem beN_cons (x : UInt8) (l : List UInt8) : beN (x :: l) = x.toNat * 256 ^ l.length + beN l := by
  have := beN_from l (0 * 256 + x.toNat)
  unfold beN at this ⊢
  rw [List.foldl_cons, this]
  simp
theorem beN_snoc (l : List UInt8) (x : UInt8) : beN (l ++ [x]) = beN l * 256 + x.toNat := by unfold beN; rw [List.foldl_append]; rfl
theorem beN_nil : beN [] = 0 := rfl
theorem beN_lt (l : List UInt8) : beN l < 256 ^ l.length := by
  induction l with
  | nil => simp [beN_nil]
  | cons x l ih =>
    rw [beN_cons, List.length_cons, Nat.pow_succ]
    have := x.toNat_lt
    have h2 : x.toNat * 256 ^ l.length ≤ 255 * 256 ^ l.length := Nat.mul_le_mul_right _ (by omega)
    omega
theorem pow256 : 256 ^ 32 = top := by rw [top_pow]
theorem beN_top {l : List UInt8} (h : l.length ≤ 32) : beN l < top := by
  rw [← pow256]
  exact Nat.lt_of_lt_of_le (beN_lt l) (Nat.pow_le_pow_right (by decide) h)

/-- What has been read, from the last one down. -/
def accN (zs : List UInt8) (pre : List (Fin zs.length)) : Nat := pre.foldl (fun (a : Nat) (x : Fin zs.length) => a ||| zs[x].toNat * 2 ^ (8 * (zs.length - 1 - x))) 0
theorem accN_snoc (zs : List UInt8) (pre : List (Fin zs.length)) (x : Fin zs.length) : accN zs (pre ++ [x]) = accN zs pre ||| zs[x].toNat * 2 ^ (8 * (zs.length - 1 - x)) := by
  unfold accN; rw [List.foldl_append]; rfl
/-- From the last one down. -/
def dnl (n : Nat) : List (Fin n) := (List.finRange n).reverse
theorem dnl_length (n : Nat) : (dnl n).length = n := by simp [dnl]
theorem dnl_take {n k : Nat} (h : k < n) : (dnl n).take (k + 1) = (dnl n).take k ++ [⟨n - 1 - k, by omega⟩] := by
  rw [List.take_succ_eq_append_getElem (by rw [dnl_length]; exact h)]
  congr 2
  simp [dnl, List.getElem_reverse]
theorem accN_take (zs : List UInt8) : ∀ k, k ≤ zs.length → accN zs ((dnl zs.length).take k) = beN (zs.drop (zs.length - k))
  | 0, _ => by
    have : zs.drop (zs.length - 0) = [] := by simp
    rw [this]
    simp [accN, beN_nil]
  | k + 1, h => by
    have ih := accN_take zs k (by omega)
    have hd : zs.drop (zs.length - (k + 1)) = zs[zs.length - 1 - k] :: zs.drop (zs.length - k) := by
      have e : zs.length - (k + 1) = zs.length - 1 - k := by omega
      rw [e, List.drop_eq_getElem_cons (by omega)]
      congr 2
      omega
    have hlen : (zs.drop (zs.length - k)).length = k := by rw [List.length_drop]; omega
    have hlt := beN_lt (zs.drop (zs.length - k))
    rw [dnl_take (by omega), accN_snoc, ih, hd, beN_cons, hlen]
    rw [hlen] at hlt
    have e8 : (256 : Nat) ^ k = 2 ^ (8 * k) := by rw [Nat.pow_mul]
    rw [e8] at hlt ⊢
    have ek : zs.length - 1 - (zs.length - 1 - k) = k := by omega
    show beN (zs.drop (zs.length - k)) ||| zs[zs.length - 1 - k].toNat * 2 ^ (8 * (zs.length - 1 - (zs.length - 1 - k))) = _
    rw [ek, Nat.or_comm, Nat.mul_comm, Nat.two_pow_add_eq_or_of_lt hlt]
theorem accN_all (zs : List UInt8) : accN zs (dnl zs.length) = beN zs := by
  have := accN_take zs zs.length (Nat.le_refl _)
  rw [List.take_of_length_le (by rw [dnl_length]; exact Nat.le_refl _), Nat.sub_self, List.drop_zero] at this
  exact this
end Go.Flo

/-! Plain: texts of hexadecimal digits. No program is named here. -/
namespace Go.Flo
open Go Go.RowKit

/-- A sign's digit. -/
def hexd (c : Nat) : Option Nat := if 48 ≤ c ∧ c ≤ 57 then some (c - 48) else if 97 ≤ c ∧ c ≤ 102 then some (c - 87) else if 65 ≤ c ∧ c ≤ 70 then some (c - 55) else none
def isHex (x : UInt8) : Bool := (hexd x.toNat).isSome
def hexv (x : UInt8) : Nat := (hexd x.toNat).getD 0
/-- The number that signs are. -/
def hexN (l : List UInt8) : Nat := l.foldl (fun a x => a * 16 + hexv x) 0
/-- A text as a number: the number, and what is wrong. -/
def parseHex (l : List UInt8) : Nat × Nat := if l = [] ∨ ¬ l.all isHex = true then (0, 2) else if top ≤ hexN l then (0, 3) else (hexN l, 0)
theorem hexd_lt {c d : Nat} (h : hexd c = some d) : d < 16 := by
  unfold hexd at h
  split at h
  · cases h; omega
  · split at h
    · cases h; omega
    · split at h
      · cases h; omega
      · cases h
theorem hexv_lt (x : UInt8) : hexv x < 16 := by
  unfold hexv
  cases h : hexd x.toNat with
  | none => simp
  | some d => exact hexd_lt h
theorem hexd_high {c : Nat} (h : 128 ≤ c) : hexd c = none := by unfold hexd; rw [if_neg (by omega), if_neg (by omega), if_neg (by omega)]
theorem hexN_snoc (l : List UInt8) (x : UInt8) : hexN (l ++ [x]) = hexN l * 16 + hexv x := by unfold hexN; rw [List.foldl_append]; rfl
theorem hexN_nil : hexN [] = 0 := rfl
theorem take_snoc8 (l : List UInt8) (t : Nat) (h : t < l.length) : l.take (t + 1) = l.take t ++ [l[t]] := List.take_succ_eq_append_getElem h
theorem top16 : top = 16 * 7237005577332262213973186563042994240829374041602535252466099000494570602496 := by rw [top_eq]
/-- A digit is laid in behind. -/
theorem hex_step (n d : Nat) (hd : d < 16) : n % top * 16 % top ||| d = (n * 16 + d) % top ∧ (decide (top ≤ n) || decide (top ≤ n % top * 16)) = decide (top ≤ n * 16 + d) := by
  have h16 := top16
  generalize 7237005577332262213973186563042994240829374041602535252466099000494570602496 = q at h16
  have e1 : n % top * 16 % top = 16 * (n % top % q) := by rw [h16, Nat.mul_comm (n % (16 * q)) 16, Nat.mul_mod_mul_left]
  have e2 : n % top % q = n % q := by rw [h16, Nat.mul_comm 16 q, Nat.mod_mul_right_mod]
  have e3 : (n * 16 + d) % top = 16 * (n % q) + d := by
    have h1 := Nat.div_add_mod n q
    have h0 : 0 < q := by rcases Nat.eq_zero_or_pos q with h | h; · rw [h] at h16; rw [top_eq] at h16; cases h16
                          · exact h
    have h2 := Nat.mod_lt n h0
    rw [show n * 16 + d = (16 * (n % q) + d) + 16 * q * (n / q) by
      have : n * 16 = 16 * q * (n / q) + 16 * (n % q) := by rw [Nat.mul_assoc, ← Nat.mul_add, h1, Nat.mul_comm]
      omega, ← h16, Nat.add_mul_mod_self_left, Nat.mod_eq_of_lt]
    rw [h16]; omega
  refine ⟨?_, ?_⟩
  · rw [e1, e2, e3]
    have := Nat.two_pow_add_eq_or_of_lt (i := 4) (b := d) hd (n % q)
    rw [show (2 : Nat) ^ 4 = 16 from rfl] at this
    exact this.symm
  · rw [Bool.eq_iff_iff]
    simp only [Bool.or_eq_true, decide_eq_true_eq]
    constructor
    · rintro (h | h)
      · omega
      · have := Nat.mod_le n top; omega
    · intro h
      by_cases hn : top ≤ n
      · exact .inl hn
      · rw [Nat.mod_eq_of_lt (by omega)]
        exact .inr (by omega)
/-- Four words, the lowest digits of which are nought, and a small number. -/
theorem four_or (x d : Nat) (hd : d < 18446744073709551616) : #[Value.int .u64 (bits .or .u64 (l0 x) (d : Int)), .int .u64 (l1 x), .int .u64 (l2 x), .int .u64 (l3 x)] =
    #[.int .u64 (l0 (x ||| d)), .int .u64 (l1 (x ||| d)), .int .u64 (l2 (x ||| d)), .int .u64 (l3 (x ||| d))] := by
  have h0 : bits .or .u64 (l0 x) (d : Int) = l0 (x ||| d) := by
    rw [l0_li, l0_li]
    unfold li
    rw [or_cast _ _ (pow64 _) hd]
    congr 1
    apply Nat.eq_of_testBit_eq
    intro k
    simp only [Nat.mul_zero, Nat.pow_zero, Nat.div_one, Nat.testBit_or, Nat.testBit_mod_two_pow]
    by_cases hk : k < 64
    · simp [hk]
    · have : d.testBit k = false := Nat.testBit_lt_two_pow (Nat.lt_of_lt_of_le hd (show 2 ^ 64 ≤ 2 ^ k from Nat.pow_le_pow_right (by decide) (by omega)))
      simp [hk, this]
  have hi : ∀ i, 1 ≤ i → li i (x ||| d) = li i x := fun i hi => by
    unfold li
    congr 1
    apply Nat.eq_of_testBit_eq
    intro k
    simp only [Nat.testBit_or, Nat.testBit_mod_two_pow, Nat.testBit_div_two_pow]
    have : d.testBit (k + 64 * i) = false := Nat.testBit_lt_two_pow (Nat.lt_of_lt_of_le hd (show 2 ^ 64 ≤ 2 ^ (k + 64 * i) from Nat.pow_le_pow_right (by decide) (by omega)))
    simp [this]
  rw [h0, l1_li, l2_li, l3_li, l1_li, l2_li, l3_li, hi 1 (by decide), hi 2 (by decide), hi 3 (by decide)]
end Go.Flo

/-! slices.Backward at []byte. -/
namespace Go.Proofs.Ytkgjgdeaclefiaa
open Go Go.Proofs Go.RowKit Go.Flo Go.Shelf

attribute [local go_sem] Oper.semAt_some

/-- The item is made of cells. -/
def ofCells : It → Bool
  | .c _ _ _ => true
  | .s _ _ _ _ _ => true
  | .o _ _ => false
theorem holds_cells {base : Nat} {w : World} : ∀ {x : It}, x.holds base w → ofCells x = true → ∀ {b : Nat}, x.blk = some b → ∃ o : Obj, w.heap[b]? = some o ∧ o.isCells = true
  | .c _ _ _, h, _, _, hb => by cases hb; exact ⟨_, h.2, rfl⟩
  | .s _ _ _ _ _, h, _, b, hb => by
    obtain ⟨_, ⟨rfl, _⟩ | ⟨g, cap, cur, rfl, _, hg, _⟩⟩ := h
    · simp [It.blk, Value.ownBlock] at hb
    · simp [It.blk, Value.ownBlock] at hb; subst hb; exact ⟨_, hg, rfl⟩
/-- A list of items is kept beside a loop over an iterator. -/
theorem mem_own {β : Type} {w0 : World} {B : Nat} (hB : w0.heap.size ≤ B) (l : β → List It) (hl : ∀ s, (l s).all ofCells = true) : OwnFrom B (fun s W => Mem w0 W (l s)) := fun s W W' row hs hg hr =>
  ⟨hs.below.grown hg hs.size (fun k e => Nat.le_trans hB (hr k e).1), hs.items.keep fun x hx b hxb => hg.block b ((hs.items.mem x hx).lt hxb).2 fun e => by
    obtain ⟨o, ho, hc⟩ := (hr b e.symm).2
    obtain ⟨o', ho', hc'⟩ := holds_cells (hs.items.mem x hx) (List.all_eq_true.1 (hl s) x hx) hxb
    rw [ho] at ho'; cases ho'; rw [hc] at hc'; cases hc'⟩
theorem keeps_put4 (W : World) (b : Nat) (x0 x1 x2 x3 : Value) : KeepsOthers W (put4 W b x0 x1 x2 x3) :=
  (((KeepsOthers.setCell W _ x0).trans (KeepsOthers.setCell _ _ x1)).trans (KeepsOthers.setCell _ _ x2)).trans (KeepsOthers.setCell _ _ x3)
/-- The calls that were put off are done with. -/
theorem mem_done {w0 W : World} {l : List It} {D : Nat} {o : Obj} (M : Mem w0 W l) (hl : l.all ofCells = true) (hD : w0.heap.size ≤ D) (hK : W.heap[D]? = some o) (ho : o.isCells = false) (o' : Obj) : Mem w0 (W.putObj D o') l :=
  OwnFrom.putObj (mem_own (w0 := w0) (B := w0.heap.size) (Nat.le_refl _) (fun _ : Unit => l) (fun _ => hl)) (s := ()) o' M hD hK ho
/-- What a round keeps: all blocks below n, and the box of the slice. -/
structure KB (n Bs : Nat) (W W' : World) : Prop where
  below : Below n W W'
  box : W'.heap[Bs]? = W.heap[Bs]?
theorem KB.refl (n Bs : Nat) (W : World) : KB n Bs W W := ⟨Below.refl _ _, rfl⟩
theorem KB.trans {n Bs : Nat} {A B C : World} (h : KB n Bs A B) (k : KB n Bs B C) : KB n Bs A C := ⟨h.below.trans k.below, k.box.trans h.box⟩
theorem KB.cell {n Bs : Nat} {W W' : World} (h : KB n Bs W W') (j : Nat) : W'.cell? ⟨Bs, j, none⟩ = W.cell? ⟨Bs, j, none⟩ := World.cell?_of_block (w := W) h.box
theorem kb_b {w : World} {n Bs : Nat} (hn : n ≤ w.heap.size) (hB : Bs < w.heap.size) (W : World) (l : Nat) (o o' : Obj) (hl : w.heap.size ≤ l) (ho : W.heap[l]? = some o) (hc : o.isCells = false) (hw : o.isWalk = false) : KB n Bs W (W.putObj l o') := by
  have h1 := belowK_b (w := w) hn W l o o' hl ho hc hw
  have h2 := belowK_b (w := w) (Nat.le_refl _) W l o o' hl ho hc hw
  exact ⟨h1, h2.block Bs hB⟩

set_option maxRecDepth 100000 in
set_option maxHeartbeats 2000000 in
theorem back1_in (F : Fence) (n : Nat) (h7 : F.fn 135) (hro : F.round = none) (hn : 1 ≤ n) (l Bs n₀ b off cap : Nat) (zs : List UInt8) (hreach : zs.length ≤ 140737488351232) (hb : b < n₀) (J Jx : List (Fin zs.length) → World → Prop)
    (hY : ∀ pre (x : Fin zs.length) W, J pre W → pre.length < zs.length → YieldAt F (n - 1) Try.prog l #[.int .i64 (x.1 : Int), .int .u8 (at8 zs x.1)] W fun e W' =>
      (e = .returned (.bool true) ∧ J (pre ++ [x]) W' ∧ KB n₀ Bs W W') ∨ (e = .returned (.bool false) ∧ Jx (pre ++ [x]) W'))
    (W : World) (hBs : W.cell? ⟨Bs, 0, none⟩ = some (.slice (some ⟨b, off, none⟩) zs.length cap)) (hc : ∀ j, j < zs.length → W.cell? ⟨b, off + j, none⟩ = some (.int .u8 (at8 zs j))) (h0 : J [] W) :
    CallsIn F n Try.prog 135 #[.func (.yield l) #[] #[], .pointer (some ⟨Bs, 0, none⟩)] W fun e W' => (∃ v, e = .returned v) ∧
      ((∃ ys, ys = dnl zs.length ∧ J ys W') ∨ (∃ pre, (∃ k, k ≤ zs.length ∧ pre = (dnl zs.length).take k) ∧ Jx pre W')) := by
  refine callsIn_of_wp Try.func135 rfl h7 ?_ hro
  simp only [Try.ntmps135, List.size_toArray, List.length_cons, List.length_nil, Nat.reduceAdd, Nat.reduceSub, Array.replicate_succ, Array.replicate_zero, List.push_toArray, List.append_toArray, List.nil_append, List.cons_append]
  gi_wp2
  gi_loopw [3] (fun i wr => ∃ k : Nat, k ≤ zs.length ∧ i = .int .i64 ((zs.length : Int) - 1 - k) ∧ J ((dnl zs.length).take k) wr ∧ KB n₀ Bs W wr)
    (fun i _ => (intOf i + 1).toNat)
  case atStart => exact ⟨0, Nat.zero_le _, by simp, h0, KB.refl _ _ _⟩
  case round =>
    obtain ⟨k, hk, rfl, hJs, hnx⟩ := hrel
    have hBs' : wr.cell? ⟨Bs, 0, none⟩ = some (.slice (some ⟨b, off, none⟩) zs.length cap) := (hnx.cell 0).trans hBs
    by_cases hlt : k < zs.length
    · obtain ⟨m, hm⟩ : ∃ m, m = zs.length - 1 - k := ⟨_, rfl⟩
      have hml : m < zs.length := by omega
      have hmi : (zs.length : Int) - 1 - k = (m : Int) := by omega
      rw [hmi]
      obtain ⟨fn, tmps, assign, body, hy, hR⟩ := hY _ ⟨m, hml⟩ wr hJs (by rw [List.length_take, dnl_length]; omega)
      dsimp only at hy
      have hcx' : wr.cell? ⟨b, off + m, none⟩ = some (.int .u8 (at8 zs m)) := (hnx.below.cell (p := ⟨b, off + m, none⟩) hb).trans (hc m hml)
      have hml' : (m : Int) < zs.length := by omega
      clear hmi hc
      have HM := Lib.hid hm
      clear hm
      gi_wp2
      refine hR.mono ?_
      rintro e W3 (⟨rfl, hJ3, hk3⟩ | ⟨rfl, hJx3⟩)
      · gi_wp2
        go_roundw
        case rel => exact ⟨k + 1, by omega, by have := HM.out; congr 1; omega, by rw [dnl_take hlt]; have e := HM.out; subst e; exact hJ3, hnx.trans hk3⟩
        case measure => simp [intOf]
      · gi_wp2
        refine bodyPost_ret (results_none rfl _ _ _) rfl ?_
        exact ⟨⟨_, rfl⟩, .inr ⟨_, ⟨k + 1, by omega, by rw [dnl_take hlt]; have e := HM.out; subst e; rfl⟩, hJx3⟩⟩
    · obtain rfl : k = zs.length := by omega
      have e : (zs.length : Int) - 1 - (zs.length : Int) = -1 := by omega
      rw [e]
      gi_wp2
      go_end0
      exact ⟨⟨_, rfl⟩, .inl ⟨_, rfl, by rw [List.take_of_length_le (by rw [dnl_length]; exact Nat.le_refl _)] at hJs; exact hJs⟩⟩

set_option maxRecDepth 100000 in
set_option maxHeartbeats 1000000 in
/-- .. at the nil slice: no round. -/
theorem back1_nil_in (F : Fence) (n : Nat) (h7 : F.fn 135) (hro : F.round = none) (l Bs : Nat) {α : Type} (J : List α → World → Prop) (W : World) (a : Option Addr) (cap : Nat) (hBs : W.cell? ⟨Bs, 0, none⟩ = some (.slice a 0 cap)) (h0 : J [] W) :
    CallsIn F n Try.prog 135 #[.func (.yield l) #[] #[], .pointer (some ⟨Bs, 0, none⟩)] W fun e W' => (∃ v, e = .returned v) ∧ J [] W' := by
  refine callsIn_of_wp Try.func135 rfl h7 ?_ hro
  simp only [Try.ntmps135, List.size_toArray, List.length_cons, List.length_nil, Nat.reduceAdd, Nat.reduceSub, Array.replicate_succ, Array.replicate_zero, List.push_toArray, List.append_toArray, List.nil_append, List.cons_append]
  gi_wp2
  gi_loopw [3] (fun i wr => i = .int .i64 (-1) ∧ J [] wr) (fun _ _ => 0)
  case atStart => exact ⟨rfl, h0⟩
  case round =>
    obtain ⟨rfl, hJs⟩ := hrel
    gi_wp2
    go_end0
    exact ⟨⟨_, rfl⟩, hJs⟩

set_option maxHeartbeats 1000000 in
/-- slices.Backward(s): the slice value is boxed; the function value captures the box. -/
theorem back_in (F : Fence) (n : Nat) (h5 : F.fn 110) (hro : F.round = none) (v : Value) (hv : ∃ a m c, v = .slice a m c) (w : World) :
    CallsIn F n Try.prog 110 #[v] w fun e w' => e = .returned (.func (.func 135) #[] #[.pointer (some ⟨w.heap.size, 0, none⟩)]) ∧ w' = w.alloc (.cells #[v] 42) := by
  obtain ⟨a, m, c, rfl⟩ := hv
  refine callsIn_of_wp Try.func110 rfl h5 ?_ hro
  simp only [Try.ntmps110, List.size_toArray, List.length_cons, List.length_nil, Nat.reduceAdd, Nat.reduceSub, Array.replicate_succ, Array.replicate_zero, List.push_toArray, List.append_toArray, List.nil_append, List.cons_append]
  gi_wp2
  go_ret
  exact ⟨rfl, rfl⟩

theorem back_stops (F : Fence) (n : Nat) (h7 : F.fn 135) (hro : F.round = none) (hn : 1 ≤ n) (Bs n₀ : Nat) (sv : Value) (zs : List UInt8) (hreach : zs.length ≤ 140737488351232) (w : World) (hBs : Bs < w.heap.size) (hn₀ : n₀ ≤ w.heap.size)
    (hc : w.cell? ⟨Bs, 0, none⟩ = some sv) (hI : Rd8At n₀ w sv zs) :
    SeqStopsK F n Try.prog 135 #[.pointer (some ⟨Bs, 0, none⟩)] (fun x : Fin zs.length => #[Value.int .i64 (x.1 : Int), .int .u8 (at8 zs x.1)]) (KB n₀ Bs) (fun ys => ys = dnl zs.length) (fun pre => ∃ k, k ≤ zs.length ∧ pre = (dnl zs.length).take k) zs.length w := fun l J Jx W hW _ _ hY h0 => by
  have hc' := (hW.cell (p := ⟨Bs, 0, none⟩) hBs).trans hc
  have hI' := hI.below (hW.mono hn₀)
  rcases hI' with ⟨hz, a, cap, hv⟩ | ⟨_, b, off, cap, hv, hb, _, hcs⟩
  · subst hz
    rw [hv] at hc'
    exact (back1_nil_in F n h7 hro l Bs J W a cap hc' h0).mono fun e W' ⟨he, hj⟩ => ⟨he, .inl ⟨_, rfl, hj⟩⟩
  · rw [hv] at hc'
    exact back1_in F n h7 hro hn l Bs n₀ b off cap zs hreach hb J Jx hY W hc' hcs h0
end Go.Proofs.Ytkgjgdeaclefiaa

/-! u256.FromBytes. -/
namespace Go.Proofs.Ytkgjgdeaclefiaa
open Go Go.Proofs Go.RowKit Go.Flo Go.Shelf

attribute [local go_sem] Oper.semAt_some

set_option maxRecDepth 100000 in
set_option maxHeartbeats 2000000 in
theorem frombytes_c (v : Value) (zs : List UInt8) (hl : zs.length ≤ 32) (w : World) (hI : Rd8 w v zs) :
    Calls Try.prog 77 #[v] w fun e w' => e = .returned (.tuple #[uV (beN zs), .int .i64 0]) ∧ Below w.heap.size w w' := by
  obtain ⟨a, c, hv⟩ := hI.shape
  subst hv
  have hb : decide ((32 : Int) < (zs.length : Int)) = false := decide_eq_false (by omega)
  refine (callsIn_wide (n := 3)).1 ?_
  refine callsIn_of_wp_marks Try.func77 rfl trivial ?_ rfl
  simp only [Try.ntmps77, List.size_toArray, List.length_cons, List.length_nil, Nat.reduceAdd, Nat.reduceSub, Array.replicate_succ, Array.replicate_zero, List.push_toArray, List.append_toArray, List.nil_append, List.cons_append]
  gi_wp2_with (first | (refine ⟨trivial, ?_⟩; gi_at_call 110; refine (back_in Fence.wide _ trivial rfl _ ⟨_, _, _, rfl⟩ _).mono ?_; rintro e w' ⟨rfl, rfl⟩) | (gi_at_call 110; refine (back_in Fence.wide _ trivial rfl _ ⟨_, _, _, rfl⟩ _).mono ?_; rintro e w' ⟨rfl, rfl⟩))
  have M := Mem.alloc (Mem.alloc (Mem.alloc (Mem.alloc (Mem.nil w) (cs := #[.slice a zs.length c]) (t := 42)) (cs := #[.int .u64 0, .int .u64 0, .int .u64 0, .int .u64 0]) (t := 32)) (cs := #[.int .u64 0, .int .u64 0, .int .u64 0, .int .u64 0]) (t := 32)) (cs := #[.slice a zs.length c]) (t := 42)
  have F := Mem.facts M
  simp only [MemFacts, ApartFacts, World.size_alloc] at F
  have hI' : Rd8At w.heap.size _ (.slice a zs.length c) zs := Rd8At.below hI M.below
  refine wpIn_rangeFunc_ownG (w0 := (((w.alloc (.cells #[.slice a zs.length c] 42)).alloc (.cells #[.int .u64 0, .int .u64 0, .int .u64 0, .int .u64 0] 32)).alloc (.cells #[.int .u64 0, .int .u64 0, .int .u64 0, .int .u64 0] 32)).alloc (.cells #[.slice a zs.length c] 42)) rfl (by omega) (gf := 135) (lb := #[.pointer (some ⟨w.heap.size + 1 + 1 + 1, 0, none⟩)]) rfl trivial (enters_of Try.func135 (by kernel_rfl) rfl)
    (back_stops Fence.wide _ trivial rfl (by omega) (w.heap.size + 1 + 1 + 1) w.heap.size _ zs (by omega) _ (by simp) (by simp; omega) (F.2.2.2.1 0) hI') KB.trans (kb_b (by simp; omega) (by simp)) (Below.refl _ _) (fun _ => rfl)
    (fun pre W => Mem w W [.c (w.heap.size + 1 + 1 + 1) #[.slice a zs.length c] 42, .c (w.heap.size + 1 + 1) #[.int .u64 (l0 (accN zs pre)), .int .u64 (l1 (accN zs pre)), .int .u64 (l2 (accN zs pre)), .int .u64 (l3 (accN zs pre))] 32, .c (w.heap.size + 1) #[.int .u64 0, .int .u64 0, .int .u64 0, .int .u64 0] 32, .c w.heap.size #[.slice a zs.length c] 42])
    (fun _ _ _ => False)
    (mem_own (by simp; omega) _ (fun _ => rfl))
    (fun _ _ _ _ _ hs _ _ => hs)
    ?init
    (fun x => { tmps := #[.slice a zs.length c, .pointer (some ⟨w.heap.size, 0, none⟩), .pointer (some ⟨w.heap.size + 1, 0, none⟩), .int .i64 0, .pointer (some ⟨w.heap.size + 1 + 1, 0, none⟩), .int .i64 x.1, .int .u8 (at8 zs x.1), undef,
      .slice a zs.length c, .int .i64 zs.length, .bool false, undef, .slice a zs.length c, .func (.func 135) #[] #[.pointer (some ⟨w.heap.size + 1 + 1 + 1, 0, none⟩)], .int .i64 x.1, .int .u8 (at8 zs x.1),
      undef, undef, undef, undef, undef, undef, undef, undef, undef, undef, undef, undef, undef, undef, undef, undef, undef, undef, undef], defers := [] }) ?assign ?body ?done ?stop
  case init =>
    show Mem w _ [_, .c _ #[.int .u64 (l0 0), .int .u64 (l1 0), .int .u64 (l2 0), .int .u64 (l3 0)] _, _, _]
    rw [four0]
    simp only [World.size_alloc] at M
    exact M
  case assign =>
    intro l x W K hK
    gi_wp2
    exact hK
  case body =>
    rintro l pre x W M _
    have F := Mem.facts M; simp only [MemFacts] at F; (try simp only [ApartFacts] at F)
    have HM := Lib.hid M
    clear M
    obtain ⟨t, ht⟩ : ∃ t, t = zs.length - 1 - x.1 := ⟨_, rfl⟩
    have hxl := x.2
    have t32 : t < 32 := by omega
    have ht' : (zs.length : Int) - 1 - (x.1 : Int) = (t : Int) := by omega
    obtain ⟨p, hp⟩ : ∃ p, p = t % 8 * 8 := ⟨_, rfl⟩
    have hp' : (t : Int) % 8 * 8 = (p : Int) := by omega
    have p64 : p < 64 := by omega
    have hp3 : (p : Int) < 64 := by omega
    have hb0 := at8_lo zs x.1
    have hb1 := at8_hi zs x.1
    have HT := Lib.hid ht
    have HP := Lib.hid hp
    have hq : (t / 8 = 0 ∧ (t : Int) / 8 = 0) ∨ (t / 8 = 1 ∧ (t : Int) / 8 = 1) ∨ (t / 8 = 2 ∧ (t : Int) / 8 = 2) ∨ (t / 8 = 3 ∧ (t : Int) / 8 = 3) := by omega
    clear ht hp hxl
    have e8 : at8 zs x.1 = ((zs[x.1].toNat : Nat) : Int) := at8_get x.2
    have E8 := Lib.hid e8
    clear e8
    rcases hq with ⟨hq, hqi⟩ | ⟨hq, hqi⟩ | ⟨hq, hqi⟩ | ⟨hq, hqi⟩
    all_goals
      have HQ := Lib.hid hq
      clear hq
      gi_wp2
      have M2 : Mem w _ _ := HM.out.put 1 rfl (t / 8) (.int .u64 (bits .or .u64 (li (t / 8) (accN zs pre)) (IntKind.u64.wrap ((zs[x.1].toNat : Int) * 2 ^ p))))
      rw [four_byte _ _ t p (t / 8) HP.out rfl (by omega) (zs[x.1].toNat_lt), ← E8.out] at M2
      have ha : accN zs (pre ++ [x]) = accN zs pre ||| zs[x.1].toNat * 2 ^ (8 * t) := by
        have h := accN_snoc zs pre x
        rw [← show t = zs.length - 1 - (x : Nat) from HT.out] at h
        exact h
      rw [HQ.out] at M2
      rw [← ha] at M2
      first | rw [← l0_li] at M2 | rw [← l1_li] at M2 | rw [← l2_li] at M2 | rw [← l3_li] at M2
      exact ⟨(KeepsOthers.setCell _ _ _).from _, ⟨(Below.refl w.heap.size W).setCell (by simp; omega) _, (M2.at 0 rfl).trans (HM.out.at 0 rfl).symm⟩, M2⟩
  case done =>
    rintro D ys W hD rfl M hK
    have F := Mem.facts M; simp only [MemFacts] at F; (try simp only [ApartFacts] at F)
    gi_wp2
    have M2 := M.put4 2 rfl (.int .u64 (l0 (accN zs (dnl zs.length)))) (.int .u64 (l1 (accN zs (dnl zs.length)))) (.int .u64 (l2 (accN zs (dnl zs.length)))) (.int .u64 (l3 (accN zs (dnl zs.length))))
    have hK2 := (keeps_put4 W (w.heap.size + 1) (.int .u64 (l0 (accN zs (dnl zs.length)))) (.int .u64 (l1 (accN zs (dnl zs.length)))) (.int .u64 (l2 (accN zs (dnl zs.length)))) (.int .u64 (l3 (accN zs (dnl zs.length))))).same D _ hK rfl
    refine ⟨by simp, .inl ⟨_, _, rfl, run_takeDeferred hK2, ?_⟩⟩
    have M3 := mem_done M2 rfl (by simp at hD; omega) hK2 rfl (.deferred none)
    have hc := fun j => cell_of_row _ _ j _ _ _ (M3.at 2 rfl)
    rw [← accN_all zs]
    refine ⟨.tuple #[uV (accN zs (dnl zs.length)), .int .i64 0], ?_, rfl, M3.below⟩
    simp [results, Try.results77, go_sem, hc]
  case stop =>
    rintro D c pre W _ _ h _
    exact h.elim

set_option maxRecDepth 100000 in
set_option maxHeartbeats 2000000 in
theorem frombytes_big (v : Value) (zs : List UInt8) (hl : 32 < zs.length) (w : World) (hI : Rd8 w v zs) :
    Calls Try.prog 77 #[v] w fun e w' => e = .returned (.tuple #[uV 0, .int .i64 3]) ∧ Below w.heap.size w w' := by
  obtain ⟨a, c, hv⟩ := hI.shape
  subst hv
  have hb : decide ((32 : Int) < (zs.length : Int)) = true := decide_eq_true (by omega)
  clear hl
  go_enter Try.func77, Try.ntmps77
  go_wp2
  rw [← uV_zero]
  refine bodyPost_ret (v := .tuple #[.agg #[.int .u64 0, .int .u64 0, .int .u64 0, .int .u64 0], .int .i64 3]) (by simp [results, Try.results77, go_sem]) rfl ⟨rfl, ?_⟩
  repeat' (first | (with_reducible exact Below.refl _ _) | (with_reducible assumption) | (with_reducible refine Below.drew ?_) | (with_reducible refine Below.alloc ?_ ?_ _) | (with_reducible refine Below.setCell ?_ ?_ _) | (with_reducible refine Flo.below_step ?_ (by assumption)) | (simp; done) | (simp; omega))
end Go.Proofs.Ytkgjgdeaclefiaa

/-! u256.Bytes, florinref01.Bytes. -/
namespace Go.Proofs.Ytkgjgdeaclefiaa
open Go Go.Proofs Go.RowKit Go.Flo

theorem hashT : Rowed Try.prog 22 5 32 := ⟨Try.underlying22, by kernel_rfl⟩
theorem hashZ : (Try.prog.info? 22).map (fun i => i.zero) = some (some (.agg (bA (tab 32 fun _ => 0)))) := by
  unfold bA
  kernel_rfl
/-- A number's bytes, the highest first. -/
def byt (m j : Nat) : UInt8 := UInt8.ofNat (m / 2 ^ (8 * (31 - j)))
def bytesOf (m : Nat) : List UInt8 := tab 32 (byt m)
theorem byte_word (m q t p : Nat) (hq : t / 8 = q) (hp : p = t % 8 * 8) : IntKind.u8.wrap (li q m / 2 ^ p) = ((m / 2 ^ (8 * t) % 256 : Nat) : Int) := by
  have e : li q m / 2 ^ p = ((m / 2 ^ (64 * q) % 2 ^ 64 / 2 ^ p : Nat) : Int) := by
    unfold li
    rw [show ((2 : Int) ^ p) = ((2 ^ p : Nat) : Int) by simp]
    rfl
  rw [e]
  have e2 : m / 2 ^ (64 * q) % 2 ^ 64 / 2 ^ p % 256 = m / 2 ^ (8 * t) % 256 := by
    apply Nat.eq_of_testBit_eq
    intro k
    rw [show (256 : Nat) = 2 ^ 8 from rfl]
    simp only [Nat.testBit_mod_two_pow, Nat.testBit_div_two_pow]
    by_cases hk : k < 8
    · have h1 : k + p < 64 := by omega
      have h2 : k + p + 64 * q = k + 8 * t := by omega
      simp [hk, h1, h2]
    · simp [hk]
  rw [← e2]
  simp [IntKind.wrap_u8]

theorem byt_nat (m j : Nat) : (byt m j).toNat = m / 2 ^ (8 * (31 - j)) % 256 := by unfold byt; simp
theorem byt_word (m q t p s : Nat) (hq : t / 8 = q) (hp : p = t % 8 * 8) (hs : s + t = 31) : li q m / 2 ^ p % 256 = ((byt m s).toNat : Int) := by
  rw [byt_nat, show 31 - s = t by omega, ← byte_word m q t p hq hp, IntKind.wrap_u8]
structure BytR (m : Nat) (o : Nat) (l : List It) (f : Nat → UInt8) (w0 : World) (i : Value) (wr : World) (t : Nat) : Prop where
  le : t ≤ 32
  at_ : i = .int .i64 (t : Int)
  mem : Mem w0 wr (.c o (bA (tab 32 f)) 22 :: l)

set_option maxRecDepth 100000 in
set_option maxHeartbeats 2000000 in
theorem bytes_c (m : Nat) (w0 : World) :
    Calls Try.prog 81 #[uV m] w0 fun e w' => e = .returned (.agg (bA (bytesOf m))) ∧ Below w0.heap.size w0 w' := by
  have M := Mem.nil w0; have F := Mem.facts M; simp only [MemFacts] at F; (try simp only [ApartFacts] at F)
  go_enter Try.func81, Try.ntmps81
  go_wp2_with (refine wl_alloc rfl 22 rfl hashZ ?_)
  go_loopw [5] (fun i wr => ∃ t, BytR m (w0.heap.size + 1 + 1) [.c (w0.heap.size + 1) (bA (tab 32 fun _ => 0)) 22, .c w0.heap.size #[.int .u64 (l0 m), .int .u64 (l1 m), .int .u64 (l2 m), .int .u64 (l3 m)] 32] (fun j => if 31 < j + t then byt m j else 0) w0 i wr t) (fun i _ => (32 - intOf i).toNat)
  case atStart =>
    refine ⟨0, Nat.zero_le _, rfl, ?_⟩
    rw [show (tab 32 fun j => if 31 < j + 0 then byt m j else 0) = tab 32 fun _ => 0 from tab_congr fun i hi => if_neg (by omega)]
    repeat' (first | (with_reducible exact M) | (with_reducible apply Mem.drew) | (with_reducible refine Mem.alloc' ?_ ?_) | (simp; done))
  case round =>
    clear M F
    obtain ⟨t, le, rfl, M⟩ := hrel
    have F := Mem.facts M; simp only [MemFacts] at F; (try simp only [ApartFacts] at F)
    rcases Nat.lt_or_ge t 32 with hlt | hge
    · obtain ⟨p, hp⟩ : ∃ p, p = t % 8 * 8 := ⟨_, rfl⟩
      have hp' : (t : Int) % 8 * 8 = (p : Int) := by omega
      have p64 : p < 64 := by omega
      obtain ⟨s, hs⟩ : ∃ s, s = 31 - t := ⟨_, rfl⟩
      have hs' : (31 : Int) - (t : Int) = (s : Int) := by omega
      have s32 : s < 32 := by omega
      have hq : (t / 8 = 0 ∧ (t : Int) / 8 = 0) ∨ (t / 8 = 1 ∧ (t : Int) / 8 = 1) ∨ (t / 8 = 2 ∧ (t : Int) / 8 = 2) ∨ (t / 8 = 3 ∧ (t : Int) / 8 = 3) := by omega
      have HP := Lib.hid hp
      have HS := Lib.hid hs
      have hg : (bA (tab 32 fun j => if 31 < j + t then byt m j else 0))[s]? = some (.int .u8 (at8 (tab 32 fun j => if 31 < j + t then byt m j else 0) s)) := bA_get (by simpa using s32)
      have HM := Lib.hid M
      clear hp hs M
      rcases hq with ⟨hq, hqi⟩ | ⟨hq, hqi⟩ | ⟨hq, hqi⟩ | ⟨hq, hqi⟩
      all_goals
        have HQ := Lib.hid hq
        clear hq
        go_wp2
        have E := byt_word m (t / 8) t p s rfl HP.out (by have := HS.out; omega)
        rw [HQ.out] at E
        first | rw [← l0_li] at E | rw [← l1_li] at E | rw [← l2_li] at E | rw [← l3_li] at E
        rw [E]
        refine ⟨⟨t + 1, by omega, by simp, mem_bA HM.out fun j hj => ?_⟩, by simp only [intOf]; omega⟩
        have := HS.out
        by_cases h : j = s
        · subst h; rw [if_pos rfl, if_pos (by omega)]
        · rw [if_neg h]
          by_cases h' : 31 < j + t
          · rw [if_pos h', if_pos (by omega)]
          · rw [if_neg h', if_neg (by omega)]
    · obtain rfl : t = 32 := by omega
      have e : (tab 32 fun j => if 31 < j + 32 then byt m j else 0) = bytesOf m := tab_congr fun j _ => if_pos (by omega)
      rw [e] at M
      clear F e
      go_wp2_with (first | (refine wl_load rfl 22 _ rfl hashT rfl (M.at 0 rfl) (by rw [bA_size]; rfl) ?_) | (refine wl_store rfl 22 _ _ rfl hashT rfl rfl (M.at 1 rfl) (by rw [bA_size]; rfl) (by rw [bA_size, tab_length]) (bA_one _) ?_))
      refine bodyPost_ret (results_cell_row Try.results81 _ _ (w0.heap.size + 1) 22 (bA (bytesOf m)) (0, 0) _ rfl ((M.row 1 rfl _).at 1 rfl) hashT.under rfl (by rw [bA_size]; exact hashT.size)) rfl ⟨rfl, ?_⟩
      exact (M.row 1 rfl (bA (bytesOf m))).below
theorem bytesOf_length (m : Nat) : (bytesOf m).length = 32 := by simp [bytesOf]
theorem bytesOf_drop (m : Nat) : ∀ k, k ≤ 32 → beN ((bytesOf m).drop (32 - k)) = m % 2 ^ (8 * k)
  | 0, _ => by
    rw [Nat.sub_zero, List.drop_of_length_le (by rw [bytesOf_length]; exact Nat.le_refl _)]
    simp [beN_nil, Nat.mod_one]
  | k + 1, h => by
    have ih := bytesOf_drop m k (by omega)
    have hd : (bytesOf m).drop (32 - (k + 1)) = byt m (32 - (k + 1)) :: (bytesOf m).drop (32 - k) := by
      rw [List.drop_eq_getElem_cons (by rw [bytesOf_length]; omega), show 32 - (k + 1) + 1 = 32 - k by omega]
      congr 1
      exact tab_get _
    have hl : ((bytesOf m).drop (32 - k)).length = k := by rw [List.length_drop, bytesOf_length]; omega
    rw [hd, beN_cons, ih, hl, byt_nat, show 31 - (32 - (k + 1)) = k by omega, show (256 : Nat) ^ k = 2 ^ (8 * k) by rw [Nat.pow_mul]]
    rw [show 8 * (k + 1) = 8 * k + 8 by omega, Nat.pow_add, Nat.mod_mul, show (256 : Nat) = 2 ^ 8 from rfl, Nat.mul_comm]
    omega
theorem beN_bytesOf {m : Nat} (h : m < top) : beN (bytesOf m) = m := by
  have := bytesOf_drop m 32 (Nat.le_refl _)
  rw [Nat.sub_self, List.drop_zero] at this
  rw [this]
  exact Nat.mod_eq_of_lt (by rw [← top_pow]; exact h)

set_option maxRecDepth 100000 in
set_option maxHeartbeats 2000000 in
theorem rbytes_c (m : Nat) (w0 : World) :
    Calls Try.prog 82 #[uV m] w0 fun e w' => e = .returned (.agg (bA (bytesOf m))) ∧ Below w0.heap.size w0 w' := by
  have M := Mem.nil w0; have F := Mem.facts M; simp only [MemFacts] at F; (try simp only [ApartFacts] at F)
  go_enter Try.func82, Try.ntmps82
  go_wp2_with (refine wl_alloc rfl 22 rfl hashZ ?_)
  go_loopw [4] (fun i wr => ∃ t, BytR m (w0.heap.size + 1 + 1) [.c (w0.heap.size + 1) (bA (tab 32 fun _ => 0)) 22, .c w0.heap.size #[.int .u64 (l0 m), .int .u64 (l1 m), .int .u64 (l2 m), .int .u64 (l3 m)] 35] (fun j => if j < t then byt m j else 0) w0 i wr t) (fun i _ => (32 - intOf i).toNat)
  case atStart =>
    refine ⟨0, Nat.zero_le _, rfl, ?_⟩
    rw [show (tab 32 fun j => if j < 0 then byt m j else 0) = tab 32 fun _ => 0 from tab_congr fun i hi => if_neg (by omega)]
    repeat' (first | (with_reducible exact M) | (with_reducible apply Mem.drew) | (with_reducible refine Mem.alloc' ?_ ?_) | (simp; done))
  case round =>
    clear M F
    obtain ⟨t, le, rfl, M⟩ := hrel
    have F := Mem.facts M; simp only [MemFacts] at F; (try simp only [ApartFacts] at F)
    rcases Nat.lt_or_ge t 32 with hlt | hge
    · obtain ⟨p, hp⟩ : ∃ p, p = (31 - t) % 8 * 8 := ⟨_, rfl⟩
      have hp' : (56 : Int) - (t : Int) % 8 * 8 = (p : Int) := by omega
      have p64 : p < 64 := by omega
      have hq : ((31 - t) / 8 = 0 ∧ (3 : Int) - (t : Int) / 8 = 0) ∨ ((31 - t) / 8 = 1 ∧ (3 : Int) - (t : Int) / 8 = 1) ∨ ((31 - t) / 8 = 2 ∧ (3 : Int) - (t : Int) / 8 = 2) ∨ ((31 - t) / 8 = 3 ∧ (3 : Int) - (t : Int) / 8 = 3) := by omega
      have HP := Lib.hid hp
      have hg : (bA (tab 32 fun j => if j < t then byt m j else 0))[t]? = some (.int .u8 (at8 (tab 32 fun j => if j < t then byt m j else 0) t)) := bA_get (by simpa using hlt)
      have HM := Lib.hid M
      clear hp M
      rcases hq with ⟨hq, hqi⟩ | ⟨hq, hqi⟩ | ⟨hq, hqi⟩ | ⟨hq, hqi⟩
      all_goals
        have HQ := Lib.hid hq
        clear hq
        go_wp2
        have E := byt_word m ((31 - t) / 8) (31 - t) p t rfl HP.out (by omega)
        rw [HQ.out] at E
        first | rw [← l0_li] at E | rw [← l1_li] at E | rw [← l2_li] at E | rw [← l3_li] at E
        rw [E]
        refine ⟨⟨t + 1, by omega, by simp, mem_bA HM.out fun j hj => ?_⟩, by simp only [intOf]; omega⟩
        by_cases h : j = t
        · subst h; rw [if_pos rfl, if_pos (by omega)]
        · rw [if_neg h]
          by_cases h' : j < t
          · rw [if_pos h', if_pos (by omega)]
          · rw [if_neg h', if_neg (by omega)]
    · obtain rfl : t = 32 := by omega
      have e : (tab 32 fun j => if j < 32 then byt m j else 0) = bytesOf m := tab_congr fun j hj => if_pos hj
      rw [e] at M
      clear F e
      go_wp2_with (first | (refine wl_load rfl 22 _ rfl hashT rfl (M.at 0 rfl) (by rw [bA_size]; rfl) ?_) | (refine wl_store rfl 22 _ _ rfl hashT rfl rfl (M.at 1 rfl) (by rw [bA_size]; rfl) (by rw [bA_size, tab_length]) (bA_one _) ?_))
      refine bodyPost_ret (results_cell_row Try.results82 _ _ (w0.heap.size + 1) 22 (bA (bytesOf m)) (0, 0) _ rfl ((M.row 1 rfl _).at 1 rfl) hashT.under rfl (by rw [bA_size]; exact hashT.size)) rfl ⟨rfl, ?_⟩
      exact (M.row 1 rfl (bA (bytesOf m))).below
end Go.Proofs.Ytkgjgdeaclefiaa

/-! u256.digit, florinref01.digit. -/
namespace Go.Proofs.Ytkgjgdeaclefiaa
open Go Go.Proofs Go.RowKit Go.Flo

theorem digit_y0 (c : Nat) (hc : 48 ≤ c ∧ c ≤ 57) (w : World) :
    Calls Try.prog 127 #[.int .i32 (c : Int)] w fun e w' => e = .returned (.tuple #[.int .u64 ((c - 48 : Nat) : Int), .bool true]) ∧ Below w.heap.size w w' := by
  have e : (c : Int) - 48 = ((c - 48 : Nat) : Int) := by omega
  have g48 : (48 : Int) ≤ c := by omega
  have g97 : decide ((97 : Int) ≤ c) = false := decide_eq_false (by omega)
  have g65 : decide ((65 : Int) ≤ c) = false := decide_eq_false (by omega)
  have l57 : (c : Int) ≤ 57 := by omega
  have l102 : (c : Int) ≤ 102 := by omega
  have l70 : (c : Int) ≤ 70 := by omega
  clear hc
  go_enter Try.func127, Try.ntmps127
  go_wp2
  (try rw [e])
  refine bodyPost_ret (v := .tuple #[.int .u64 ((c - 48 : Nat) : Int), .bool true]) (by simp [results, Try.results127, go_sem]) rfl ⟨rfl, ?_⟩
  repeat' (first | (with_reducible exact Below.refl _ _) | (with_reducible assumption) | (with_reducible refine Below.drew ?_) | (with_reducible refine Below.alloc ?_ ?_ _) | (with_reducible refine Below.setCell ?_ ?_ _) | (with_reducible refine Flo.below_step ?_ (by assumption)) | (simp; done) | (simp; omega))
theorem digit_y1 (c : Nat) (hc : 97 ≤ c ∧ c ≤ 102) (w : World) :
    Calls Try.prog 127 #[.int .i32 (c : Int)] w fun e w' => e = .returned (.tuple #[.int .u64 ((c - 87 : Nat) : Int), .bool true]) ∧ Below w.heap.size w w' := by
  have e : (c : Int) - 97 + 10 = ((c - 87 : Nat) : Int) := by omega
  have g48 : (48 : Int) ≤ c := by omega
  have g97 : (97 : Int) ≤ c := by omega
  have g65 : (65 : Int) ≤ c := by omega
  have l57 : decide ((c : Int) ≤ 57) = false := decide_eq_false (by omega)
  have l102 : (c : Int) ≤ 102 := by omega
  have l70 : decide ((c : Int) ≤ 70) = false := decide_eq_false (by omega)
  clear hc
  go_enter Try.func127, Try.ntmps127
  go_wp2
  (try rw [e])
  refine bodyPost_ret (v := .tuple #[.int .u64 ((c - 87 : Nat) : Int), .bool true]) (by simp [results, Try.results127, go_sem]) rfl ⟨rfl, ?_⟩
  repeat' (first | (with_reducible exact Below.refl _ _) | (with_reducible assumption) | (with_reducible refine Below.drew ?_) | (with_reducible refine Below.alloc ?_ ?_ _) | (with_reducible refine Below.setCell ?_ ?_ _) | (with_reducible refine Flo.below_step ?_ (by assumption)) | (simp; done) | (simp; omega))
theorem digit_y2 (c : Nat) (hc : 65 ≤ c ∧ c ≤ 70) (w : World) :
    Calls Try.prog 127 #[.int .i32 (c : Int)] w fun e w' => e = .returned (.tuple #[.int .u64 ((c - 55 : Nat) : Int), .bool true]) ∧ Below w.heap.size w w' := by
  have e : (c : Int) - 65 + 10 = ((c - 55 : Nat) : Int) := by omega
  have g48 : (48 : Int) ≤ c := by omega
  have g97 : decide ((97 : Int) ≤ c) = false := decide_eq_false (by omega)
  have g65 : (65 : Int) ≤ c := by omega
  have l57 : decide ((c : Int) ≤ 57) = false := decide_eq_false (by omega)
  have l102 : (c : Int) ≤ 102 := by omega
  have l70 : (c : Int) ≤ 70 := by omega
  clear hc
  go_enter Try.func127, Try.ntmps127
  go_wp2
  (try rw [e])
  refine bodyPost_ret (v := .tuple #[.int .u64 ((c - 55 : Nat) : Int), .bool true]) (by simp [results, Try.results127, go_sem]) rfl ⟨rfl, ?_⟩
  repeat' (first | (with_reducible exact Below.refl _ _) | (with_reducible assumption) | (with_reducible refine Below.drew ?_) | (with_reducible refine Below.alloc ?_ ?_ _) | (with_reducible refine Below.setCell ?_ ?_ _) | (with_reducible refine Flo.below_step ?_ (by assumption)) | (simp; done) | (simp; omega))
theorem digit_n0 (c : Nat) (hc : 0 ≤ c ∧ c ≤ 47) (w : World) :
    Calls Try.prog 127 #[.int .i32 (c : Int)] w fun e w' => e = .returned (.tuple #[.int .u64 0, .bool false]) ∧ Below w.heap.size w w' := by
  have g48 : decide ((48 : Int) ≤ c) = false := decide_eq_false (by omega)
  have g97 : decide ((97 : Int) ≤ c) = false := decide_eq_false (by omega)
  have g65 : decide ((65 : Int) ≤ c) = false := decide_eq_false (by omega)
  have l57 : (c : Int) ≤ 57 := by omega
  have l102 : (c : Int) ≤ 102 := by omega
  have l70 : (c : Int) ≤ 70 := by omega
  clear hc
  go_enter Try.func127, Try.ntmps127
  go_wp2
  refine bodyPost_ret (v := .tuple #[.int .u64 0, .bool false]) (by simp [results, Try.results127, go_sem]) rfl ⟨rfl, ?_⟩
  repeat' (first | (with_reducible exact Below.refl _ _) | (with_reducible assumption) | (with_reducible refine Below.drew ?_) | (with_reducible refine Below.alloc ?_ ?_ _) | (with_reducible refine Below.setCell ?_ ?_ _) | (with_reducible refine Flo.below_step ?_ (by assumption)) | (simp; done) | (simp; omega))
theorem digit_n1 (c : Nat) (hc : 58 ≤ c ∧ c ≤ 64) (w : World) :
    Calls Try.prog 127 #[.int .i32 (c : Int)] w fun e w' => e = .returned (.tuple #[.int .u64 0, .bool false]) ∧ Below w.heap.size w w' := by
  have g48 : (48 : Int) ≤ c := by omega
  have g97 : decide ((97 : Int) ≤ c) = false := decide_eq_false (by omega)
  have g65 : decide ((65 : Int) ≤ c) = false := decide_eq_false (by omega)
  have l57 : decide ((c : Int) ≤ 57) = false := decide_eq_false (by omega)
  have l102 : (c : Int) ≤ 102 := by omega
  have l70 : (c : Int) ≤ 70 := by omega
  clear hc
  go_enter Try.func127, Try.ntmps127
  go_wp2
  refine bodyPost_ret (v := .tuple #[.int .u64 0, .bool false]) (by simp [results, Try.results127, go_sem]) rfl ⟨rfl, ?_⟩
  repeat' (first | (with_reducible exact Below.refl _ _) | (with_reducible assumption) | (with_reducible refine Below.drew ?_) | (with_reducible refine Below.alloc ?_ ?_ _) | (with_reducible refine Below.setCell ?_ ?_ _) | (with_reducible refine Flo.below_step ?_ (by assumption)) | (simp; done) | (simp; omega))
theorem digit_n2 (c : Nat) (hc : 71 ≤ c ∧ c ≤ 96) (w : World) :
    Calls Try.prog 127 #[.int .i32 (c : Int)] w fun e w' => e = .returned (.tuple #[.int .u64 0, .bool false]) ∧ Below w.heap.size w w' := by
  have g48 : (48 : Int) ≤ c := by omega
  have g97 : decide ((97 : Int) ≤ c) = false := decide_eq_false (by omega)
  have g65 : (65 : Int) ≤ c := by omega
  have l57 : decide ((c : Int) ≤ 57) = false := decide_eq_false (by omega)
  have l102 : (c : Int) ≤ 102 := by omega
  have l70 : decide ((c : Int) ≤ 70) = false := decide_eq_false (by omega)
  clear hc
  go_enter Try.func127, Try.ntmps127
  go_wp2
  refine bodyPost_ret (v := .tuple #[.int .u64 0, .bool false]) (by simp [results, Try.results127, go_sem]) rfl ⟨rfl, ?_⟩
  repeat' (first | (with_reducible exact Below.refl _ _) | (with_reducible assumption) | (with_reducible refine Below.drew ?_) | (with_reducible refine Below.alloc ?_ ?_ _) | (with_reducible refine Below.setCell ?_ ?_ _) | (with_reducible refine Flo.below_step ?_ (by assumption)) | (simp; done) | (simp; omega))
theorem digit_n3 (c : Nat) (hc : 103 ≤ c) (w : World) :
    Calls Try.prog 127 #[.int .i32 (c : Int)] w fun e w' => e = .returned (.tuple #[.int .u64 0, .bool false]) ∧ Below w.heap.size w w' := by
  have g48 : (48 : Int) ≤ c := by omega
  have g97 : (97 : Int) ≤ c := by omega
  have g65 : (65 : Int) ≤ c := by omega
  have l57 : decide ((c : Int) ≤ 57) = false := decide_eq_false (by omega)
  have l102 : decide ((c : Int) ≤ 102) = false := decide_eq_false (by omega)
  have l70 : decide ((c : Int) ≤ 70) = false := decide_eq_false (by omega)
  clear hc
  go_enter Try.func127, Try.ntmps127
  go_wp2
  refine bodyPost_ret (v := .tuple #[.int .u64 0, .bool false]) (by simp [results, Try.results127, go_sem]) rfl ⟨rfl, ?_⟩
  repeat' (first | (with_reducible exact Below.refl _ _) | (with_reducible assumption) | (with_reducible refine Below.drew ?_) | (with_reducible refine Below.alloc ?_ ?_ _) | (with_reducible refine Below.setCell ?_ ?_ _) | (with_reducible refine Flo.below_step ?_ (by assumption)) | (simp; done) | (simp; omega))
theorem digit_some (c d : Nat) (hd : hexd c = some d) (w : World) :
    Calls Try.prog 127 #[.int .i32 (c : Int)] w fun e w' => e = .returned (.tuple #[.int .u64 (d : Int), .bool true]) ∧ Below w.heap.size w w' := by
  unfold hexd at hd
  split at hd
  · cases hd; exact digit_y0 c ‹_› w
  · split at hd
    · cases hd; exact digit_y1 c ‹_› w
    · split at hd
      · cases hd; exact digit_y2 c ‹_› w
      · cases hd
theorem hexd_none {c : Nat} (hd : hexd c = none) : (0 ≤ c ∧ c ≤ 47) ∨ (58 ≤ c ∧ c ≤ 64) ∨ (71 ≤ c ∧ c ≤ 96) ∨ 103 ≤ c := by
  unfold hexd at hd
  split at hd
  · cases hd
  · split at hd
    · cases hd
    · split at hd
      · cases hd
      · omega
theorem digit_none (c : Nat) (hd : hexd c = none) (w : World) :
    Calls Try.prog 127 #[.int .i32 (c : Int)] w fun e w' => e = .returned (.tuple #[.int .u64 0, .bool false]) ∧ Below w.heap.size w w' := by
  rcases hexd_none hd with h | h | h | h
  · exact digit_n0 c h w
  · exact digit_n1 c h w
  · exact digit_n2 c h w
  · exact digit_n3 c h w

theorem rdigit_y0 (c : Nat) (hc : 48 ≤ c ∧ c ≤ 57) (w : World) :
    Calls Try.prog 128 #[.int .u8 (c : Int)] w fun e w' => e = .returned (.int .i64 ((c - 48 : Nat) : Int)) ∧ Below w.heap.size w w' := by
  have e : (c : Int) - 48 = ((c - 48 : Nat) : Int) := by omega
  have g48 : (48 : Int) ≤ c := by omega
  have g97 : decide ((97 : Int) ≤ c) = false := decide_eq_false (by omega)
  have g65 : decide ((65 : Int) ≤ c) = false := decide_eq_false (by omega)
  have l57 : (c : Int) ≤ 57 := by omega
  have l102 : (c : Int) ≤ 102 := by omega
  have l70 : (c : Int) ≤ 70 := by omega
  clear hc
  go_enter Try.func128, Try.ntmps128
  go_wp2
  (try rw [e])
  refine bodyPost_ret (v := .int .i64 ((c - 48 : Nat) : Int)) (by simp [results, Try.results128, go_sem]) rfl ⟨rfl, ?_⟩
  repeat' (first | (with_reducible exact Below.refl _ _) | (with_reducible assumption) | (with_reducible refine Below.drew ?_) | (with_reducible refine Below.alloc ?_ ?_ _) | (with_reducible refine Below.setCell ?_ ?_ _) | (with_reducible refine Flo.below_step ?_ (by assumption)) | (simp; done) | (simp; omega))
theorem rdigit_y1 (c : Nat) (hc : 97 ≤ c ∧ c ≤ 102) (w : World) :
    Calls Try.prog 128 #[.int .u8 (c : Int)] w fun e w' => e = .returned (.int .i64 ((c - 87 : Nat) : Int)) ∧ Below w.heap.size w w' := by
  have e : (c : Int) - 97 + 10 = ((c - 87 : Nat) : Int) := by omega
  have g48 : (48 : Int) ≤ c := by omega
  have g97 : (97 : Int) ≤ c := by omega
  have g65 : (65 : Int) ≤ c := by omega
  have l57 : decide ((c : Int) ≤ 57) = false := decide_eq_false (by omega)
  have l102 : (c : Int) ≤ 102 := by omega
  have l70 : decide ((c : Int) ≤ 70) = false := decide_eq_false (by omega)
  clear hc
  go_enter Try.func128, Try.ntmps128
  go_wp2
  (try rw [e])
  refine bodyPost_ret (v := .int .i64 ((c - 87 : Nat) : Int)) (by simp [results, Try.results128, go_sem]) rfl ⟨rfl, ?_⟩
  repeat' (first | (with_reducible exact Below.refl _ _) | (with_reducible assumption) | (with_reducible refine Below.drew ?_) | (with_reducible refine Below.alloc ?_ ?_ _) | (with_reducible refine Below.setCell ?_ ?_ _) | (with_reducible refine Flo.below_step ?_ (by assumption)) | (simp; done) | (simp; omega))
theorem rdigit_y2 (c : Nat) (hc : 65 ≤ c ∧ c ≤ 70) (w : World) :
    Calls Try.prog 128 #[.int .u8 (c : Int)] w fun e w' => e = .returned (.int .i64 ((c - 55 : Nat) : Int)) ∧ Below w.heap.size w w' := by
  have e : (c : Int) - 65 + 10 = ((c - 55 : Nat) : Int) := by omega
  have g48 : (48 : Int) ≤ c := by omega
  have g97 : decide ((97 : Int) ≤ c) = false := decide_eq_false (by omega)
  have g65 : (65 : Int) ≤ c := by omega
  have l57 : decide ((c : Int) ≤ 57) = false := decide_eq_false (by omega)
  have l102 : (c : Int) ≤ 102 := by omega
  have l70 : (c : Int) ≤ 70 := by omega
  clear hc
  go_enter Try.func128, Try.ntmps128
  go_wp2
  (try rw [e])
  refine bodyPost_ret (v := .int .i64 ((c - 55 : Nat) : Int)) (by simp [results, Try.results128, go_sem]) rfl ⟨rfl, ?_⟩
  repeat' (first | (with_reducible exact Below.refl _ _) | (with_reducible assumption) | (with_reducible refine Below.drew ?_) | (with_reducible refine Below.alloc ?_ ?_ _) | (with_reducible refine Below.setCell ?_ ?_ _) | (with_reducible refine Flo.below_step ?_ (by assumption)) | (simp; done) | (simp; omega))
theorem rdigit_n0 (c : Nat) (hc : 0 ≤ c ∧ c ≤ 47) (w : World) :
    Calls Try.prog 128 #[.int .u8 (c : Int)] w fun e w' => e = .returned (.int .i64 (-1)) ∧ Below w.heap.size w w' := by
  have g48 : decide ((48 : Int) ≤ c) = false := decide_eq_false (by omega)
  have g97 : decide ((97 : Int) ≤ c) = false := decide_eq_false (by omega)
  have g65 : decide ((65 : Int) ≤ c) = false := decide_eq_false (by omega)
  have l57 : (c : Int) ≤ 57 := by omega
  have l102 : (c : Int) ≤ 102 := by omega
  have l70 : (c : Int) ≤ 70 := by omega
  clear hc
  go_enter Try.func128, Try.ntmps128
  go_wp2
  refine bodyPost_ret (v := .int .i64 (-1)) (by simp [results, Try.results128, go_sem]) rfl ⟨rfl, ?_⟩
  repeat' (first | (with_reducible exact Below.refl _ _) | (with_reducible assumption) | (with_reducible refine Below.drew ?_) | (with_reducible refine Below.alloc ?_ ?_ _) | (with_reducible refine Below.setCell ?_ ?_ _) | (with_reducible refine Flo.below_step ?_ (by assumption)) | (simp; done) | (simp; omega))
theorem rdigit_n1 (c : Nat) (hc : 58 ≤ c ∧ c ≤ 64) (w : World) :
    Calls Try.prog 128 #[.int .u8 (c : Int)] w fun e w' => e = .returned (.int .i64 (-1)) ∧ Below w.heap.size w w' := by
  have g48 : (48 : Int) ≤ c := by omega
  have g97 : decide ((97 : Int) ≤ c) = false := decide_eq_false (by omega)
  have g65 : decide ((65 : Int) ≤ c) = false := decide_eq_false (by omega)
  have l57 : decide ((c : Int) ≤ 57) = false := decide_eq_false (by omega)
  have l102 : (c : Int) ≤ 102 := by omega
  have l70 : (c : Int) ≤ 70 := by omega
  clear hc
  go_enter Try.func128, Try.ntmps128
  go_wp2
  refine bodyPost_ret (v := .int .i64 (-1)) (by simp [results, Try.results128, go_sem]) rfl ⟨rfl, ?_⟩
  repeat' (first | (with_reducible exact Below.refl _ _) | (with_reducible assumption) | (with_reducible refine Below.drew ?_) | (with_reducible refine Below.alloc ?_ ?_ _) | (with_reducible refine Below.setCell ?_ ?_ _) | (with_reducible refine Flo.below_step ?_ (by assumption)) | (simp; done) | (simp; omega))
theorem rdigit_n2 (c : Nat) (hc : 71 ≤ c ∧ c ≤ 96) (w : World) :
    Calls Try.prog 128 #[.int .u8 (c : Int)] w fun e w' => e = .returned (.int .i64 (-1)) ∧ Below w.heap.size w w' := by
  have g48 : (48 : Int) ≤ c := by omega
  have g97 : decide ((97 : Int) ≤ c) = false := decide_eq_false (by omega)
  have g65 : (65 : Int) ≤ c := by omega
  have l57 : decide ((c : Int) ≤ 57) = false := decide_eq_false (by omega)
  have l102 : (c : Int) ≤ 102 := by omega
  have l70 : decide ((c : Int) ≤ 70) = false := decide_eq_false (by omega)
  clear hc
  go_enter Try.func128, Try.ntmps128
  go_wp2
  refine bodyPost_ret (v := .int .i64 (-1)) (by simp [results, Try.results128, go_sem]) rfl ⟨rfl, ?_⟩
  repeat' (first | (with_reducible exact Below.refl _ _) | (with_reducible assumption) | (with_reducible refine Below.drew ?_) | (with_reducible refine Below.alloc ?_ ?_ _) | (with_reducible refine Below.setCell ?_ ?_ _) | (with_reducible refine Flo.below_step ?_ (by assumption)) | (simp; done) | (simp; omega))
theorem rdigit_n3 (c : Nat) (hc : 103 ≤ c) (w : World) :
    Calls Try.prog 128 #[.int .u8 (c : Int)] w fun e w' => e = .returned (.int .i64 (-1)) ∧ Below w.heap.size w w' := by
  have g48 : (48 : Int) ≤ c := by omega
  have g97 : (97 : Int) ≤ c := by omega
  have g65 : (65 : Int) ≤ c := by omega
  have l57 : decide ((c : Int) ≤ 57) = false := decide_eq_false (by omega)
  have l102 : decide ((c : Int) ≤ 102) = false := decide_eq_false (by omega)
  have l70 : decide ((c : Int) ≤ 70) = false := decide_eq_false (by omega)
  clear hc
  go_enter Try.func128, Try.ntmps128
  go_wp2
  refine bodyPost_ret (v := .int .i64 (-1)) (by simp [results, Try.results128, go_sem]) rfl ⟨rfl, ?_⟩
  repeat' (first | (with_reducible exact Below.refl _ _) | (with_reducible assumption) | (with_reducible refine Below.drew ?_) | (with_reducible refine Below.alloc ?_ ?_ _) | (with_reducible refine Below.setCell ?_ ?_ _) | (with_reducible refine Flo.below_step ?_ (by assumption)) | (simp; done) | (simp; omega))
theorem rdigit_some (c d : Nat) (hd : hexd c = some d) (w : World) :
    Calls Try.prog 128 #[.int .u8 (c : Int)] w fun e w' => e = .returned (.int .i64 (d : Int)) ∧ Below w.heap.size w w' := by
  unfold hexd at hd
  split at hd
  · cases hd; exact rdigit_y0 c ‹_› w
  · split at hd
    · cases hd; exact rdigit_y1 c ‹_› w
    · split at hd
      · cases hd; exact rdigit_y2 c ‹_› w
      · cases hd
theorem rdigit_none (c : Nat) (hd : hexd c = none) (w : World) :
    Calls Try.prog 128 #[.int .u8 (c : Int)] w fun e w' => e = .returned (.int .i64 (-1)) ∧ Below w.heap.size w w' := by
  rcases hexd_none hd with h | h | h | h
  · exact rdigit_n0 c h w
  · exact rdigit_n1 c h w
  · exact rdigit_n2 c h w
  · exact rdigit_n3 c h w

end Go.Proofs.Ytkgjgdeaclefiaa

/-! u256.FromHex. -/
namespace Go.Proofs.Ytkgjgdeaclefiaa
open Go Go.Proofs Go.RowKit Go.Flo

theorem iterPos_at {w : World} {k p : Nat} {s : ByteArray} (h : w.heap[k]? = some (.stringIter s p)) : w.iterPos k = p := by unfold World.iterPos; rw [h]

structure FhR (s : ByteArray) (w0 : World) (v : Value) (wr : World) (t : Nat) : Prop where
  le : t ≤ s.size
  lost : v = .bool (decide (top ≤ hexN (s.data.toList.take t)))
  all : (s.data.toList.take t).all isHex = true
  mem : Mem w0 wr [.o (w0.heap.size + 1 + 1) (.stringIter s t), .c (w0.heap.size + 1) #[.int .u64 (l0 (hexN (s.data.toList.take t) % top)), .int .u64 (l1 (hexN (s.data.toList.take t) % top)), .int .u64 (l2 (hexN (s.data.toList.take t) % top)), .int .u64 (l3 (hexN (s.data.toList.take t) % top))] 32, .c w0.heap.size #[.int .u64 0, .int .u64 0, .int .u64 0, .int .u64 0] 32]

set_option maxRecDepth 100000 in
set_option maxHeartbeats 2000000 in
theorem fromhex_c (s : ByteArray) (w0 : World) :
    Calls Try.prog 79 #[.string s] w0 fun e w' => e = .returned (.tuple #[uV (parseHex s.data.toList).1, .int .i64 (parseHex s.data.toList).2]) ∧ Below w0.heap.size w0 w' := by
  have hT : 0 < top := Nat.lt_trans (by decide) top_big
  have M := Mem.nil w0; have F := Mem.facts M; simp only [MemFacts] at F; (try simp only [ApartFacts] at F)
  go_enter Try.func79, Try.ntmps79
  go_wp2
  go_loopw [5] (fun v wr => ∃ t, FhR s w0 v wr t) (fun _ wr => s.size - wr.iterPos (w0.heap.size + 1 + 1))
  case atStart =>
    refine ⟨0, Nat.zero_le _, by rw [List.take_zero, hexN_nil, decide_eq_false (by omega)], rfl, ?_⟩
    rw [List.take_zero, hexN_nil, Nat.zero_mod, four0]
    refine Mem.allocO (by simp) ?_
    repeat' (first | (with_reducible exact M) | (with_reducible apply Mem.drew) | (with_reducible refine Mem.alloc' ?_ ?_) | (simp; done))
  case round =>
    clear M F
    obtain ⟨t, le, rfl, hall, M⟩ := hrel
    have F := Mem.facts M; simp only [MemFacts] at F; (try simp only [ApartFacts] at F)
    have HM := Lib.hid M
    have hit := M.obj 0 rfl
    have Hall := Lib.hid hall
    clear M hall
    obtain ⟨n, hn⟩ : ∃ n, n = hexN (s.data.toList.take t) := ⟨_, rfl⟩
    rw [← hn] at F HM ⊢
    have HN := Lib.hid hn
    clear hn
    rcases Nat.lt_or_ge t s.size with hlt | hge
    · have htk : s.data.toList.take (t + 1) = s.data.toList.take t ++ [s[t]] := take_snoc8 _ t (by simpa using hlt)
      cases hd : hexd s[t].toNat with
      | some d =>
        have h128 : s[t].toNat < 128 := by
          rcases Nat.lt_or_ge s[t].toNat 128 with h | h
          · exact h
          · rw [hexd_high h] at hd; cases hd
        have hnx := fun ty => Lib.run_next_ascii_at (P := Try.prog) wr _ s t ty hit hlt h128
        have d16 := hexd_lt hd
        have Hd := Lib.hid hd
        have Htk := Lib.hid htk
        clear hd htk hit F
        have M := HM.out.iter 0 rfl (t + 1)
        dsimp only [List.set_cons_zero] at M
        obtain ⟨L, hL⟩ : ∃ L, L = decide (top ≤ n) := ⟨_, rfl⟩
        rw [← hL]
        obtain ⟨x, hx⟩ : ∃ x, x = n % top * 16 % top := ⟨_, rfl⟩
        obtain ⟨ov, hov⟩ : ∃ ov, ov = decide (top ≤ n % top * 16) := ⟨_, rfl⟩
        have C1 : ∀ w, Calls Try.prog 74 #[uV (n % top), .int .i64 4] w fun e w' => e = .returned (.tuple #[uV x, .bool ov]) ∧ Below w.heap.size w w' := fun w => by
          rw [hx, hov]; exact shl_c (n % top) (Nat.mod_lt _ hT) 4 w
        have st := hex_step n d d16
        rw [← hL, ← hov, ← hx] at st
        have St := Lib.hid st
        clear hL hx hov st
        have hv : hexv s[t] = d := by unfold hexv; rw [Hd.out]; rfl
        have en : hexN (s.data.toList.take (t + 1)) = n * 16 + d := by rw [Htk.out, hexN_snoc, ← HN.out, hv]
        have ea : (s.data.toList.take (t + 1)).all isHex = true := by
          rw [Htk.out, List.all_append, Hall.out]
          simp [isHex, Hd.out]
        have e4 := four_or x d (by omega)
        rw [St.out.1] at e4
        rw [← en] at e4
        have E4 := Lib.hid e4
        have Ea := Lib.hid ea
        have El : Hid ((L || ov) = decide (top ≤ hexN (s.data.toList.take (t + 1)))) := by rw [en]; exact St.out.2
        clear hv en ea e4
        rcases L with _ | _ <;> rcases ov with _ | _
        all_goals
          go_wp2_with (first | (go_at_call 127; (with_reducible refine ((digit_some _ d Hd.out) _).mono ?_); rintro e w1 ⟨rfl, hb⟩; replace M := Mem.call (w0 := w0) (by repeat' (first | (with_reducible exact M) | (with_reducible apply Mem.drew) | (with_reducible apply Mem.alloc))) hb; clear hb; (try clear F); (try simp only [World.size_alloc] at M); (try simp only [heap_drew] at M); have F := Mem.facts M; simp only [MemFacts] at F; (try simp only [ApartFacts] at F)) | (go_at_call 74; (with_reducible refine (C1 _).mono ?_); rintro e w1 ⟨rfl, hb⟩; replace M := Mem.call (w0 := w0) (by repeat' (first | (with_reducible exact M) | (with_reducible apply Mem.drew) | (with_reducible apply Mem.alloc))) hb; clear hb; (try clear F); (try simp only [World.size_alloc] at M); (try simp only [heap_drew] at M); have F := Mem.facts M; simp only [MemFacts] at F; (try simp only [ApartFacts] at F)))
          have M2 := (((M.put4 1 rfl (.int .u64 (l0 x)) (.int .u64 (l1 x)) (.int .u64 (l2 x)) (.int .u64 (l3 x))).put 1 rfl 0 (.int .u64 (bits .or .u64 (l0 x) (d : Int)))).alloc (cs := #[.int .u64 (l0 x), .int .u64 (l1 x), .int .u64 (l2 x), .int .u64 (l3 x)]) (t := 32)).pick [1, 2, 3] (by decide)
          have M3 : Mem w0 _ [.o (w0.heap.size + 1 + 1) (.stringIter s (t + 1)), .c (w0.heap.size + 1) #[.int .u64 (bits .or .u64 (l0 x) (d : Int)), .int .u64 (l1 x), .int .u64 (l2 x), .int .u64 (l3 x)] 32, .c w0.heap.size #[.int .u64 0, .int .u64 0, .int .u64 0, .int .u64 0] 32] := M2
          rw [E4.out] at M3
          refine ⟨⟨t + 1, hlt, by rw [← El.out]; rfl, Ea.out, M3⟩, ?_⟩
          rw [iterPos_at (M3.obj 0 rfl), iterPos_at (HM.out.obj 0 rfl)]
          omega
      | none =>
        have hr : hexd (Utf8.decode s t).1 = none := by
          rcases Nat.lt_or_ge s[t].toNat 128 with h | h
          · rw [decode_ascii s t hlt h]; exact hd
          · exact hexd_high (decode_high s t hlt h).1
        have hnx := fun ty => Lib.run_next_any_at (P := Try.prog) wr _ s t ty hit hlt
        have Hd := Lib.hid hd
        have Hr := Lib.hid hr
        have Htk := Lib.hid htk
        clear hd htk hit F hr
        have M := HM.out.iter 0 rfl (t + (Utf8.decode s t).2)
        dsimp only [List.set_cons_zero] at M
        have ep : parseHex s.data.toList = (0, 2) := by
          have hne : ¬ s.data.toList.all isHex = true := fun h => by
            have := List.all_eq_true.1 h s[t] (List.getElem_mem (l := s.data.toList) (n := t) (by simpa using hlt))
            rw [isHex, Hd.out] at this
            cases this
          unfold parseHex
          rw [if_pos (.inr hne)]
        have Ep := Lib.hid ep
        clear ep
        go_wp2_with (first | (go_at_call 127; (with_reducible refine ((digit_none _ Hr.out) _).mono ?_); rintro e w1 ⟨rfl, hb⟩; replace M := Mem.call (w0 := w0) (by repeat' (first | (with_reducible exact M) | (with_reducible apply Mem.drew) | (with_reducible apply Mem.alloc))) hb; clear hb; (try clear F); (try simp only [World.size_alloc] at M); (try simp only [heap_drew] at M); have F := Mem.facts M; simp only [MemFacts] at F; (try simp only [ApartFacts] at F)))
        rw [Ep.out, ← uV_zero]
        (have hc := fun j => cell_of_row _ _ j _ _ _ ((M.put4 2 rfl (.int .u64 (0)) (.int .u64 (0)) (.int .u64 (0)) (.int .u64 (0))).at 2 rfl); refine bodyPost_ret (v := .tuple #[.agg #[.int .u64 0, .int .u64 0, .int .u64 0, .int .u64 0], .int .i64 2]) (by simp [results, Try.results79, go_sem, hc]) rfl ⟨rfl, (M.put4 2 rfl _ _ _ _).below⟩)
    · obtain rfl : t = s.size := by omega
      have htk : s.data.toList.take s.size = s.data.toList := List.take_of_length_le (by simp)
      have hnx := fun ty => Lib.run_next_end_at (P := Try.prog) wr _ s s.size ty hit (Nat.lt_irrefl _)
      have M := HM.out
      have hN := HN.out
      have hA := Hall.out
      rw [htk] at hN hA
      clear HM HN Hall hit htk
      by_cases h0 : s.data.toList = []
      · have he : s.toList.isEmpty = true := by rw [ByteArray.toList_eq, h0]; rfl
        have Ep : Hid (parseHex s.data.toList = (0, 2)) := by unfold parseHex; rw [if_pos (.inl h0)]; rfl
        clear h0 hN hA
        go_wp2
        rw [Ep.out, ← uV_zero]
        (have hc := fun j => cell_of_row _ _ j _ _ _ ((M.put4 2 rfl (.int .u64 (0)) (.int .u64 (0)) (.int .u64 (0)) (.int .u64 (0))).at 2 rfl); refine bodyPost_ret (v := .tuple #[.agg #[.int .u64 0, .int .u64 0, .int .u64 0, .int .u64 0], .int .i64 2]) (by simp [results, Try.results79, go_sem, hc]) rfl ⟨rfl, (M.put4 2 rfl _ _ _ _).below⟩)
      · have he : s.toList.isEmpty = false := by
          rw [ByteArray.toList_eq]
          cases hl : s.data.toList with
          | nil => exact absurd hl h0
          | cons _ _ => rfl
        have hor : ¬ (s.data.toList = [] ∨ ¬ s.data.toList.all isHex = true) := fun h => h.elim h0 (fun h => h hA)
        by_cases hl : top ≤ n
        · have Ep : Hid (parseHex s.data.toList = (0, 3)) := by unfold parseHex; rw [if_neg hor, if_pos (hN ▸ hl)]; rfl
          have hd : decide (top ≤ n) = true := decide_eq_true hl
          clear h0 hN hA hor hl
          rw [hd]
          clear hd
          go_wp2
          rw [Ep.out, ← uV_zero]
          (have hc := fun j => cell_of_row _ _ j _ _ _ ((M.put4 2 rfl (.int .u64 (0)) (.int .u64 (0)) (.int .u64 (0)) (.int .u64 (0))).at 2 rfl); refine bodyPost_ret (v := .tuple #[.agg #[.int .u64 0, .int .u64 0, .int .u64 0, .int .u64 0], .int .i64 3]) (by simp [results, Try.results79, go_sem, hc]) rfl ⟨rfl, (M.put4 2 rfl _ _ _ _).below⟩)
        · have Ep : Hid (parseHex s.data.toList = (n, 0)) := by unfold parseHex; rw [if_neg hor, if_neg (hN ▸ hl), ← hN]; rfl
          have hd : decide (top ≤ n) = false := decide_eq_false hl
          have hm : Hid (n % top = n) := Nat.mod_eq_of_lt (by omega)
          clear h0 hN hA hor hl
          rw [hm.out] at M F
          rw [hd]
          clear hd
          go_wp2
          rw [Ep.out]
          (have hc := fun j => cell_of_row _ _ j _ _ _ ((M.put4 2 rfl (.int .u64 (l0 n)) (.int .u64 (l1 n)) (.int .u64 (l2 n)) (.int .u64 (l3 n))).at 2 rfl); refine bodyPost_ret (v := .tuple #[uV n, .int .i64 0]) (by simp [results, Try.results79, go_sem, hc]) rfl ⟨rfl, (M.put4 2 rfl _ _ _ _).below⟩)
end Go.Proofs.Ytkgjgdeaclefiaa
