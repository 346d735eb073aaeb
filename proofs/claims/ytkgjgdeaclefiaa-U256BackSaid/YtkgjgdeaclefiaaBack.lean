/-
  slices.Backward at []byte.
-/
import Derived.Test.YtkgjgdeaclefiaaNumB
import Derived.RangeFuncBox
import Derived.RangeFuncLeaves
import Derived.Shelf.Abstract
import Derived.WalkKit
import Derived.OwnWalkIn
import Derived.TacticsInMore
import Derived.LoopNIn
import Derived.LoopIn
import Derived.Test.YtkgjgdeaclefiaaProg
namespace Go.Proofs.Ytkgjgdeaclefiaa
open Go Go.Proofs Go.RowKit Go.Flo Go.Shelf

attribute [local go_sem] Oper.semAt_some

/-- The item is made of cells. -/
def ofCells : It → Bool
  | .c _ _ _ => true
  | .s _ _ _ _ _ => true
  | .o _ _ => false
theorem holds_cells {base : Nat} {w : World} : ∀ {x : It}, x.holds base w → ofCells x = true → ∀ {b : Nat}, x.blk = some b → ∃ o : Obj, w.heap[b]? = some o ∧ o.isCells = true
  | .c _ _ _, h, _, _, hb => by cases hb; exact ⟨_, h.2, rfl⟩
  | .s _ _ _ _ _, h, _, b, hb => by
    obtain ⟨_, ⟨rfl, _⟩ | ⟨g, cap, cur, rfl, _, hg, _⟩⟩ := h
    · simp [It.blk, Value.ownBlock] at hb
    · simp [It.blk, Value.ownBlock] at hb; subst hb; exact ⟨_, hg, rfl⟩
/-- A list of items is kept beside a loop over an iterator. -/
theorem mem_own {β : Type} {w0 : World} {B : Nat} (hB : w0.heap.size ≤ B) (l : β → List It) (hl : ∀ s, (l s).all ofCells = true) : OwnFrom B (fun s W => Mem w0 W (l s)) := fun s W W' row hs hg hr =>
  ⟨hs.below.grown hg hs.size (fun k e => Nat.le_trans hB (hr k e).1), hs.items.keep fun x hx b hxb => hg.block b ((hs.items.mem x hx).lt hxb).2 fun e => by
    obtain ⟨o, ho, hc⟩ := (hr b e.symm).2
    obtain ⟨o', ho', hc'⟩ := holds_cells (hs.items.mem x hx) (List.all_eq_true.1 (hl s) x hx) hxb
    rw [ho] at ho'; cases ho'; rw [hc] at hc'; cases hc'⟩
theorem keeps_put4 (W : World) (b : Nat) (x0 x1 x2 x3 : Value) : KeepsOthers W (put4 W b x0 x1 x2 x3) :=
  (((KeepsOthers.setCell W _ x0).trans (KeepsOthers.setCell _ _ x1)).trans (KeepsOthers.setCell _ _ x2)).trans (KeepsOthers.setCell _ _ x3)
/-- The calls that were put off are done with. -/
theorem mem_done {w0 W : World} {l : List It} {D : Nat} {o : Obj} (M : Mem w0 W l) (hl : l.all ofCells = true) (hD : w0.heap.size ≤ D) (hK : W.heap[D]? = some o) (ho : o.isCells = false) (o' : Obj) : Mem w0 (W.putObj D o') l :=
  OwnFrom.putObj (mem_own (w0 := w0) (B := w0.heap.size) (Nat.le_refl _) (fun _ : Unit => l) (fun _ => hl)) (s := ()) o' M hD hK ho
/-- What a round keeps: all blocks below n, and the box of the slice. -/
structure KB (n Bs : Nat) (W W' : World) : Prop where
  below : Below n W W'
  box : W'.heap[Bs]? = W.heap[Bs]?
theorem KB.refl (n Bs : Nat) (W : World) : KB n Bs W W := ⟨Below.refl _ _, rfl⟩
theorem KB.trans {n Bs : Nat} {A B C : World} (h : KB n Bs A B) (k : KB n Bs B C) : KB n Bs A C := ⟨h.below.trans k.below, k.box.trans h.box⟩
theorem KB.cell {n Bs : Nat} {W W' : World} (h : KB n Bs W W') (j : Nat) : W'.cell? ⟨Bs, j, none⟩ = W.cell? ⟨Bs, j, none⟩ := World.cell?_of_block (w := W) h.box
theorem kb_b {w : World} {n Bs : Nat} (hn : n ≤ w.heap.size) (hB : Bs < w.heap.size) (W : World) (l : Nat) (o o' : Obj) (hl : w.heap.size ≤ l) (ho : W.heap[l]? = some o) (hc : o.isCells = false) (hw : o.isWalk = false) : KB n Bs W (W.putObj l o') := by
  have h1 := belowK_b (w := w) hn W l o o' hl ho hc hw
  have h2 := belowK_b (w := w) (Nat.le_refl _) W l o o' hl ho hc hw
  exact ⟨h1, h2.block Bs hB⟩

set_option maxRecDepth 100000 in
set_option maxHeartbeats 2000000 in
theorem back1_in (F : Fence) (n : Nat) (h7 : F.fn 135) (hro : F.round = none) (hn : 1 ≤ n) (l Bs n₀ b off cap : Nat) (zs : List UInt8) (hreach : zs.length ≤ 140737488351232) (hb : b < n₀) (J Jx : List (Fin zs.length) → World → Prop)
    (hY : ∀ pre (x : Fin zs.length) W, J pre W → pre.length < zs.length → YieldAt F (n - 1) Try.prog l #[.int .i64 (x.1 : Int), .int .u8 (at8 zs x.1)] W fun e W' =>
      (e = .returned (.bool true) ∧ J (pre ++ [x]) W' ∧ KB n₀ Bs W W') ∨ (e = .returned (.bool false) ∧ Jx (pre ++ [x]) W'))
    (W : World) (hBs : W.cell? ⟨Bs, 0, none⟩ = some (.slice (some ⟨b, off, none⟩) zs.length cap)) (hc : ∀ j, j < zs.length → W.cell? ⟨b, off + j, none⟩ = some (.int .u8 (at8 zs j))) (h0 : J [] W) :
    CallsIn F n Try.prog 135 #[.func (.yield l) #[] #[], .pointer (some ⟨Bs, 0, none⟩)] W fun e W' => (∃ v, e = .returned v) ∧
      ((∃ ys, ys = dnl zs.length ∧ J ys W') ∨ (∃ pre, (∃ k, k ≤ zs.length ∧ pre = (dnl zs.length).take k) ∧ Jx pre W')) := by
  refine callsIn_of_wp Try.func135 rfl h7 ?_ hro
  simp only [Try.ntmps135, List.size_toArray, List.length_cons, List.length_nil, Nat.reduceAdd, Nat.reduceSub, Array.replicate_succ, Array.replicate_zero, List.push_toArray, List.append_toArray, List.nil_append, List.cons_append]
  gi_wp2
  gi_loopw [3] (fun i wr => ∃ k : Nat, k ≤ zs.length ∧ i = .int .i64 ((zs.length : Int) - 1 - k) ∧ J ((dnl zs.length).take k) wr ∧ KB n₀ Bs W wr)
    (fun i _ => (intOf i + 1).toNat)
  case atStart => exact ⟨0, Nat.zero_le _, by simp, h0, KB.refl _ _ _⟩
  case round =>
    obtain ⟨k, hk, rfl, hJs, hnx⟩ := hrel
    have hBs' : wr.cell? ⟨Bs, 0, none⟩ = some (.slice (some ⟨b, off, none⟩) zs.length cap) := (hnx.cell 0).trans hBs
    by_cases hlt : k < zs.length
    · obtain ⟨m, hm⟩ : ∃ m, m = zs.length - 1 - k := ⟨_, rfl⟩
      have hml : m < zs.length := by omega
      have hmi : (zs.length : Int) - 1 - k = (m : Int) := by omega
      rw [hmi]
      obtain ⟨fn, tmps, assign, body, hy, hR⟩ := hY _ ⟨m, hml⟩ wr hJs (by rw [List.length_take, dnl_length]; omega)
      dsimp only at hy
      have hcx' : wr.cell? ⟨b, off + m, none⟩ = some (.int .u8 (at8 zs m)) := (hnx.below.cell (p := ⟨b, off + m, none⟩) hb).trans (hc m hml)
      have hml' : (m : Int) < zs.length := by omega
      clear hmi hc
      have HM := Lib.hid hm
      clear hm
      gi_wp2
      refine hR.mono ?_
      rintro e W3 (⟨rfl, hJ3, hk3⟩ | ⟨rfl, hJx3⟩)
      · gi_wp2
        go_roundw
        case rel => exact ⟨k + 1, by omega, by have := HM.out; congr 1; omega, by rw [dnl_take hlt]; have e := HM.out; subst e; exact hJ3, hnx.trans hk3⟩
        case measure => simp [intOf]
      · gi_wp2
        refine bodyPost_ret (results_none rfl _ _ _) rfl ?_
        exact ⟨⟨_, rfl⟩, .inr ⟨_, ⟨k + 1, by omega, by rw [dnl_take hlt]; have e := HM.out; subst e; rfl⟩, hJx3⟩⟩
    · obtain rfl : k = zs.length := by omega
      have e : (zs.length : Int) - 1 - (zs.length : Int) = -1 := by omega
      rw [e]
      gi_wp2
      go_end0
      exact ⟨⟨_, rfl⟩, .inl ⟨_, rfl, by rw [List.take_of_length_le (by rw [dnl_length]; exact Nat.le_refl _)] at hJs; exact hJs⟩⟩

set_option maxRecDepth 100000 in
set_option maxHeartbeats 1000000 in
/-- .. at the nil slice: no round. -/
theorem back1_nil_in (F : Fence) (n : Nat) (h7 : F.fn 135) (hro : F.round = none) (l Bs : Nat) {α : Type} (J : List α → World → Prop) (W : World) (a : Option Addr) (cap : Nat) (hBs : W.cell? ⟨Bs, 0, none⟩ = some (.slice a 0 cap)) (h0 : J [] W) :
    CallsIn F n Try.prog 135 #[.func (.yield l) #[] #[], .pointer (some ⟨Bs, 0, none⟩)] W fun e W' => (∃ v, e = .returned v) ∧ J [] W' := by
  refine callsIn_of_wp Try.func135 rfl h7 ?_ hro
  simp only [Try.ntmps135, List.size_toArray, List.length_cons, List.length_nil, Nat.reduceAdd, Nat.reduceSub, Array.replicate_succ, Array.replicate_zero, List.push_toArray, List.append_toArray, List.nil_append, List.cons_append]
  gi_wp2
  gi_loopw [3] (fun i wr => i = .int .i64 (-1) ∧ J [] wr) (fun _ _ => 0)
  case atStart => exact ⟨rfl, h0⟩
  case round =>
    obtain ⟨rfl, hJs⟩ := hrel
    gi_wp2
    go_end0
    exact ⟨⟨_, rfl⟩, hJs⟩

set_option maxHeartbeats 1000000 in
/-- slices.Backward(s): the slice value is boxed; the function value captures the box. -/
theorem back_in (F : Fence) (n : Nat) (h5 : F.fn 110) (hro : F.round = none) (v : Value) (hv : ∃ a m c, v = .slice a m c) (w : World) :
    CallsIn F n Try.prog 110 #[v] w fun e w' => e = .returned (.func (.func 135) #[] #[.pointer (some ⟨w.heap.size, 0, none⟩)]) ∧ w' = w.alloc (.cells #[v] 42) := by
  obtain ⟨a, m, c, rfl⟩ := hv
  refine callsIn_of_wp Try.func110 rfl h5 ?_ hro
  simp only [Try.ntmps110, List.size_toArray, List.length_cons, List.length_nil, Nat.reduceAdd, Nat.reduceSub, Array.replicate_succ, Array.replicate_zero, List.push_toArray, List.append_toArray, List.nil_append, List.cons_append]
  gi_wp2
  go_ret
  exact ⟨rfl, rfl⟩

theorem back_stops (F : Fence) (n : Nat) (h7 : F.fn 135) (hro : F.round = none) (hn : 1 ≤ n) (Bs n₀ : Nat) (sv : Value) (zs : List UInt8) (hreach : zs.length ≤ 140737488351232) (w : World) (hBs : Bs < w.heap.size) (hn₀ : n₀ ≤ w.heap.size)
    (hc : w.cell? ⟨Bs, 0, none⟩ = some sv) (hI : Rd8At n₀ w sv zs) :
    SeqStopsK F n Try.prog 135 #[.pointer (some ⟨Bs, 0, none⟩)] (fun x : Fin zs.length => #[Value.int .i64 (x.1 : Int), .int .u8 (at8 zs x.1)]) (KB n₀ Bs) (fun ys => ys = dnl zs.length) (fun pre => ∃ k, k ≤ zs.length ∧ pre = (dnl zs.length).take k) zs.length w := fun l J Jx W hW _ _ hY h0 => by
  have hc' := (hW.cell (p := ⟨Bs, 0, none⟩) hBs).trans hc
  have hI' := hI.below (hW.mono hn₀)
  rcases hI' with ⟨hz, a, cap, hv⟩ | ⟨_, b, off, cap, hv, hb, _, hcs⟩
  · subst hz
    rw [hv] at hc'
    exact (back1_nil_in F n h7 hro l Bs J W a cap hc' h0).mono fun e W' ⟨he, hj⟩ => ⟨he, .inl ⟨_, rfl, hj⟩⟩
  · rw [hv] at hc'
    exact back1_in F n h7 hro hn l Bs n₀ b off cap zs hreach hb J Jx hY W hc' hcs h0
end Go.Proofs.Ytkgjgdeaclefiaa
