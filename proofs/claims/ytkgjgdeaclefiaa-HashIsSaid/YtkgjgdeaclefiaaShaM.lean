/-
  Plain: what the document's words, choices and majorities are.
-/
import Derived.Test.YtkgjgdeaclefiaaShaE
namespace Go.Flo
open Go Go.RowKit
theorem chV_eq (e f g : UInt32) : (e &&& f) ^^^ (~~~e &&& g) = chV e f g := by
  unfold chV
  apply UInt32.toBitVec_inj.1
  simp only [UInt32.toBitVec_xor, UInt32.toBitVec_and, UInt32.toBitVec_not]
  apply BitVec.eq_of_getElem_eq
  intro i hi
  simp only [BitVec.getElem_xor, BitVec.getElem_and, BitVec.getElem_not]
  cases e.toBitVec[i] <;> cases f.toBitVec[i] <;> cases g.toBitVec[i] <;> rfl
theorem majV_eq (a b c : UInt32) : (a &&& b) ^^^ (a &&& c) ^^^ (b &&& c) = majV a b c := by
  unfold majV
  apply UInt32.toBitVec_inj.1
  simp only [UInt32.toBitVec_xor, UInt32.toBitVec_and, UInt32.toBitVec_or]
  apply BitVec.eq_of_getElem_eq
  intro i hi
  simp only [BitVec.getElem_xor, BitVec.getElem_and, BitVec.getElem_or]
  cases a.toBitVec[i] <;> cases b.toBitVec[i] <;> cases c.toBitVec[i] <;> rfl
theorem zero_xor32 (a : UInt32) : (0 : UInt32) ^^^ a = a := by
  apply UInt32.toBitVec_inj.1
  simp
theorem turn2 (x : UInt32) (m n : Nat) : turnV x [m, n] = rot x m ^^^ rot x n := by
  show (0 ^^^ rot x m) ^^^ rot x n = _
  rw [zero_xor32]
theorem turn3 (x : UInt32) (m n o : Nat) : turnV x [m, n, o] = rot x m ^^^ rot x n ^^^ rot x o := by
  show (0 ^^^ rot x m) ^^^ rot x n ^^^ rot x o = _
  rw [zero_xor32]
end Go.Flo
