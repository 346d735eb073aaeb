/-
  Plain: SHA-256 over words of 32 digits. No program is named here.
-/
import Derived.Test.YtkgjgdeaclefiaaLx
import Derived.Laws.BitsAllLaws
namespace Go.Flo
open Go Go.RowKit

/-- A word turned. -/
def rot (x : UInt32) (n : Nat) : UInt32 := UInt32.ofNat (x.toNat / 2 ^ n ||| x.toNat * 2 ^ (32 - n) % 4294967296)
def shr32 (x : UInt32) (n : Nat) : UInt32 := UInt32.ofNat (x.toNat / 2 ^ n)
def turnV (x : UInt32) (l : List Nat) : UInt32 := l.foldl (fun o n => o ^^^ rot x n) 0
def chV (e f g : UInt32) : UInt32 := g ^^^ (e &&& (f ^^^ g))
def majV (a b c : UInt32) : UInt32 := a &&& b ||| c &&& (a ||| b)
def be4 (l : List UInt8) : UInt32 := l.foldl (fun a c => UInt32.ofNat (a.toNat * 256 % 4294967296 ||| c.toNat)) 0
def kL : List UInt32 := [
  0x428a2f98, 0x71374491, 0xb5c0fbcf, 0xe9b5dba5, 0x3956c25b, 0x59f111f1, 0x923f82a4, 0xab1c5ed5,
  0xd807aa98, 0x12835b01, 0x243185be, 0x550c7dc3, 0x72be5d74, 0x80deb1fe, 0x9bdc06a7, 0xc19bf174,
  0xe49b69c1, 0xefbe4786, 0x0fc19dc6, 0x240ca1cc, 0x2de92c6f, 0x4a7484aa, 0x5cb0a9dc, 0x76f988da,
  0x983e5152, 0xa831c66d, 0xb00327c8, 0xbf597fc7, 0xc6e00bf3, 0xd5a79147, 0x06ca6351, 0x14292967,
  0x27b70a85, 0x2e1b2138, 0x4d2c6dfc, 0x53380d13, 0x650a7354, 0x766a0abb, 0x81c2c92e, 0x92722c85,
  0xa2bfe8a1, 0xa81a664b, 0xc24b8b70, 0xc76c51a3, 0xd192e819, 0xd6990624, 0xf40e3585, 0x106aa070,
  0x19a4c116, 0x1e376c08, 0x2748774c, 0x34b0bcb5, 0x391c0cb3, 0x4ed8aa4a, 0x5b9cca4f, 0x682e6ff3,
  0x748f82ee, 0x78a5636f, 0x84c87814, 0x8cc70208, 0x90befffa, 0xa4506ceb, 0xbef9a3f7, 0xc67178f2]
def h0L : List UInt32 := [0x6a09e667, 0xbb67ae85, 0x3c6ef372, 0xa54ff53a, 0x510e527f, 0x9b05688c, 0x1f83d9ab, 0x5be0cd19]
/-- Round i of a schedule, at 16 and above. -/
def schS (w : List UInt32) (i : Nat) : List UInt32 :=
  w.set i (w.getD (i - 16) 0 + w.getD (i - 7) 0 + (turnV (w.getD (i - 15) 0) [7, 18] ^^^ shr32 (w.getD (i - 15) 0) 3) + (turnV (w.getD (i - 2) 0) [17, 19] ^^^ shr32 (w.getD (i - 2) 0) 10))
/-- .. its first words. -/
def schW (b : List UInt8) (i : Nat) : List UInt32 := (List.range i).map (fun j => be4 ((b.drop (4 * j)).take 4)) ++ List.replicate (64 - i) 0
def schG (b : List UInt8) : Nat → List UInt32
  | 0 => schW b 16
  | k + 1 => schS (schG b k) (16 + k)
def schL (b : List UInt8) : List UInt32 := schG b 48
def rndT (k w e f g h : UInt32) : UInt32 := h + turnV e [6, 11, 25] + chV e f g + k + w
/-- Eight words behind a round. -/
def rndV (k w : UInt32) : List UInt32 → List UInt32
  | [a, b, c, d, e, f, g, h] => [rndT k w e f g h + turnV a [2, 13, 22] + majV a b c, a, b, c, d + rndT k w e f g h, e, f, g]
  | v => v
def rndG (w : List UInt32) (v : List UInt32) : Nat → List UInt32
  | 0 => v
  | i + 1 => rndV (kL.getD i 0) (w.getD i 0) (rndG w v i)
/-- Words behind a block. -/
def blkV (h : List UInt32) (b : List UInt8) : List UInt32 := if b.length = 64 then List.zipWith (· + ·) (rndG (schL b) h 64) h else h
/-- .. behind so many blocks. -/
def blksV (h : List UInt32) (l : List UInt8) : Nat → List UInt32
  | 0 => h
  | j + 1 => blksV (blkV h (l.take 64)) (l.drop 64) j
def byteV (n i : Nat) : UInt8 := UInt8.ofNat (n / 2 ^ (8 * i))
def zerosN (n : Nat) : Nat := (119 - n % 64) % 64
def tailV (n : Nat) : List UInt8 := (List.range 8).map fun i => byteV (n * 8 % 2 ^ 64) (7 - i)
def padV (n : Nat) : List UInt8 := 128 :: (List.replicate (zerosN n) 0 ++ tailV n)
structure ShaS where
  h : List UInt32
  rest : List UInt8
  n : Nat
def startS : ShaS := ⟨h0L, [], 0⟩
def saneS (s : ShaS) : Bool := decide (s.rest.length = s.n % 64)
def fixS (s : ShaS) : ShaS := if saneS s = true then s else startS
def eatS (h : List UInt32) (n : Nat) (all : List UInt8) : ShaS := ⟨blksV h all (all.length / 64), all.drop (64 * (all.length / 64)), n⟩
def writeS (s : ShaS) (b : List UInt8) : ShaS := eatS (fixS s).h (((fixS s).n + b.length) % 2 ^ 64) ((fixS s).rest ++ b)
def outV (h : List UInt32) : List UInt8 := (List.range 32).map fun i => byteV (h.getD (i / 4) 0).toNat (3 - i % 4)
def endS (s : ShaS) : List UInt8 := outV (writeS (fixS s) (padV (fixS s).n)).h
def sumV (b : List UInt8) : List UInt8 := endS (writeS startS b)
def dblV (b : List UInt8) : List UInt8 := sumV (sumV b)
theorem sum_abc : (sumV [97, 98, 99]).take 3 = [0xba, 0x78, 0x16] := by kernel_rfl
end Go.Flo
