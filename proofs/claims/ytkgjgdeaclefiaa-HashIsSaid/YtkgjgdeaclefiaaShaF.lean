/-
  bytes.Clone.
-/
import Derived.Test.YtkgjgdeaclefiaaShaE
import Derived.Lib.SliceRun
namespace Go.Proofs.Ytkgjgdeaclefiaa
open Go Go.Proofs Go.RowKit Go.Flo

theorem info8 : ∃ i0, Hid (Try.prog.info? 5 = some i0 ∧ i0.zero = some (.int .u8 0) ∧ i0.size = 1 ∧ i0.bytes = 1) := by
  obtain ⟨i0, hi, hz0, hz1, hz2⟩ := info_parts (show (Try.prog.info? 5).map (fun i => (i.zero, i.size, i.bytes)) = some (some (.int .u8 0), 1, 1) by kernel_rfl)
  exact ⟨i0, Lib.hid ⟨hi, hz0, hz1, hz2⟩⟩
set_option maxRecDepth 100000 in
set_option maxHeartbeats 2000000 in
theorem clone_c (v : Value) (l : List UInt8) (hl : l.length ≤ 1000000) (w0 : World) (hI : Rd8 w0 v l) :
    Calls Try.prog 114 #[v] w0 fun e w' => ∃ v', e = .returned v' ∧ Mem w0 w' [.s v' 5 1 l.length (l.map fun x => Value.int .u8 (x.toNat : Int))] := by
  obtain ⟨i0, HI⟩ := info8
  obtain ⟨a, cap, rfl⟩ := hI.shape
  have H := Lib.hid hI
  have HL := Lib.hid hl
  clear hI hl
  have hnil := fun (w : World) (a : Option Addr) (n c : Nat) => Lib.run_eql_slice_nil (P := Try.prog) w 42 5 a n c 0 0 Try.underlying42
  cases a with
  | none =>
    have M := (Mem.nil w0).allocS 5 1
    have e0 : l = [] := by
      rcases H.out with ⟨h, _⟩ | ⟨_, b, off, c, h, _⟩
      · exact h
      · cases h
    subst e0
    have HM := Lib.hid M
    clear M H HL
    go_enter Try.func114, Try.ntmps114
    go_wp2
    go_ret
    exact ⟨_, rfl, HM.out⟩
  | some ad =>
    have M := Mem.nil w0; have F := Mem.facts M; simp only [MemFacts] at F; (try simp only [ApartFacts] at F)
    go_enter Try.func114, Try.ntmps114
    go_wp2_with (at_builtin; refine wl_append8 (w0 := w0) 0 (Mem.owned (w0 := w0) 0 0 0 1 (Mem.alloc M) (by rfl) (by decide) (by decide) (by rfl)) rfl rfl _ _ 42 rfl i0 Try.underlying42 HI.out.1 HI.out.2.1 HI.out.2.2.1 HI.out.2.2.2 rfl _ rfl l (H.out.below ((Below.refl _ _).alloc (Nat.le_refl _) _)) (by have := HL.out; omega) ?_; clear M F; intro v w1 M; simp only [Nat.zero_add, List.set_cons_zero] at M)
    have HM := Lib.hid M
    clear M
    go_wp2
    go_ret
    exact ⟨_, rfl, HM.out⟩
end Go.Proofs.Ytkgjgdeaclefiaa
