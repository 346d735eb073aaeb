/-
  '==' of rows of bytes. No program is named here.
-/
import Derived.Test.YtkgjgdeaclefiaaByt
import Derived.Test.YtkgjgdeaclefiaaEqs
namespace Go.Flo
open Go Go.RowKit
theorem bA_ints (l : List UInt8) : bA l = ((l.map fun x => (x.toNat : Int)).map (Value.int .u8)).toArray := by unfold bA; rw [List.map_map]; rfl
theorem u8_ints_eq (l k : List UInt8) : ((l.map fun x => (x.toNat : Int)) == (k.map fun x => (x.toNat : Int))) = (l == k) := by
  rw [Bool.eq_iff_iff]
  simp only [beq_iff_eq]
  constructor
  · intro h
    exact (List.map_inj_right (f := fun x : UInt8 => (x.toNat : Int)) (fun x y e => UInt8.toNat_inj.1 (by have e' : (x.toNat : Int) = (y.toNat : Int) := e; omega))).1 h
  · intro h; rw [h]
theorem run_equalIn_bA {P : Program} (w : World) (d n : Nat) (t e : TypeId) (l k : List UInt8) (ht : P.underlying t = some (.array n e)) (he : P.underlying e = some (.int .u8)) (hs : (Go.sizeOf e).run P w = .ok 1 w)
    (hl : l.length = n) (hk : k.length = n) : (Op.equalIn (d + 2) t (.agg (bA l)) (.agg (bA k))).run P w = .ok (l == k) w := by
  rw [bA_ints, bA_ints, run_equalIn_ints w d n t e .u8 _ _ ht he hs (by simpa using hl) (by simpa using hk), u8_ints_eq]
@[go_sem] theorem run_equalIn_hash {P : Program} (w : World) (d : Nat) (t e : TypeId) (l k : List UInt8) (hl : l.length = 32) (hk : k.length = 32) (ht : P.underlying t = some (.array 32 e)) (he : P.underlying e = some (.int .u8)) (hs : (Go.sizeOf e).run P w = .ok 1 w) :
    (Op.equalIn (d + 2) t (.agg (bA l)) (.agg (bA k))).run P w = .ok (l == k) w := run_equalIn_bA w d 32 t e l k ht he hs hl hk
end Go.Flo
